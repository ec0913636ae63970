/-
  The reference's fits.
-/
import Derived.Test.YtioacgjggogflabI
namespace Go.Proofs.Ytioacgjggogflab
open Go.ChangeShapes Go.WideShapes Go.ChangeAt Go.RowKit Go.Deep Go.Joins Go.Instr
set_option maxRecDepth 100000 in
set_option maxHeartbeats 16000000 in
theorem fits_any (x : PrD) (vm : Value) (more : List Int) (w : World) (hx : x.rd w) (hsm : ∀ t ∈ x.locs, t.sm) (hm : Sl w 1 iEnc vm more) :
    Calls Try.prog 16 #[x.val, vm] w fun e w' => e = .returned (.bool (fitB x more)) ∧ Below w.heap.size w w' := by
  have HX := Lib.hid hx; have HSM := Lib.hid hsm
  obtain ⟨xn, xp, xf, xi, xl, x5, x6, x7, x8, x9, xfr, xin, xlo⟩ := x
  obtain ⟨fa, fc, h1, -, -⟩ := sl_open hx.fv
  obtain ⟨ia, ic, h2, -, -⟩ := sl_open hx.iv
  obtain ⟨la, lc, h3, ml, HL⟩ := sl_open hx.lv
  simp only at h1 h2 h3 HL ml
  subst h1; subst h2; subst h3
  obtain ⟨am, cm, rfl, mm, HM⟩ := sl_open hm
  clear hx hsm hm
  unfold PrD.val
  simp only
  unfold fitB
  simp only
  obtain ⟨r5, HR5⟩ : ∃ r, Hid (inF xlo.length x5 = r) := ⟨_, rfl⟩
  obtain ⟨r6, HR6⟩ : ∃ r, Hid (inF xlo.length x6 = r) := ⟨_, rfl⟩
  rw [HR5.out, HR6.out]
  go_enter Try.func16, Try.ntmps16
  go_wp2_with fail
  generalize hW1 : World.alloc w _ = W1
  have HG : Hid (Below w.heap.size w W1) := by rw [← hW1]; exact (Below.refl _ _).alloc (Nat.le_refl _) _
  have HBX : Hid (W1.heap[w.heap.size]? = some (.cells #[.string xn, .int .i64 xp, .slice fa xfr.length fc, .slice ia xin.length ic, .slice la xlo.length lc, .int .i64 x5, .int .i64 x6, .int .i64 x7, .int .i64 x8, .int .i64 x9] 26 (0, 0))) := by rw [← hW1]; exact heap_new' _ _
  have hz1 : w.heap.size < W1.heap.size := by rw [← hW1]; simp [go_sem]
  have hzz : w.heap.size ≤ W1.heap.size := by omega
  clear hW1
  refine (inside_is ⟨xn, xp, .slice fa xfr.length fc, .slice ia xin.length ic, .slice la xlo.length lc, x5, x6, x7, x8, x9, xfr, xin, xlo⟩ _ _ W1 (HX.out.keep HG.out) HR5).mono ?_
  rintro e w2 ⟨rfl, hw2⟩
  have HB2 := Lib.hid hw2
  have hz2 := hw2.size
  clear hw2
  have hbx2 := (HB2.out.block w.heap.size hz1).trans HBX.out
  have s0 : w2.cell? ⟨w.heap.size, 0, none⟩ = some (.string xn) := by rw [cell_of_row w2 (w.heap.size) 0 _ _ _ hbx2]; rfl
  have s1 : w2.cell? ⟨w.heap.size, 1, none⟩ = some (.int .i64 xp) := by rw [cell_of_row w2 (w.heap.size) 1 _ _ _ hbx2]; rfl
  have s2 : w2.cell? ⟨w.heap.size, 2, none⟩ = some (.slice fa xfr.length fc) := by rw [cell_of_row w2 (w.heap.size) 2 _ _ _ hbx2]; rfl
  have s3 : w2.cell? ⟨w.heap.size, 3, none⟩ = some (.slice ia xin.length ic) := by rw [cell_of_row w2 (w.heap.size) 3 _ _ _ hbx2]; rfl
  have s4 : w2.cell? ⟨w.heap.size, 4, none⟩ = some (.slice la xlo.length lc) := by rw [cell_of_row w2 (w.heap.size) 4 _ _ _ hbx2]; rfl
  have s5 : w2.cell? ⟨w.heap.size, 5, none⟩ = some (.int .i64 x5) := by rw [cell_of_row w2 (w.heap.size) 5 _ _ _ hbx2]; rfl
  have s6 : w2.cell? ⟨w.heap.size, 6, none⟩ = some (.int .i64 x6) := by rw [cell_of_row w2 (w.heap.size) 6 _ _ _ hbx2]; rfl
  have s7 : w2.cell? ⟨w.heap.size, 7, none⟩ = some (.int .i64 x7) := by rw [cell_of_row w2 (w.heap.size) 7 _ _ _ hbx2]; rfl
  have s8 : w2.cell? ⟨w.heap.size, 8, none⟩ = some (.int .i64 x8) := by rw [cell_of_row w2 (w.heap.size) 8 _ _ _ hbx2]; rfl
  have s9 : w2.cell? ⟨w.heap.size, 9, none⟩ = some (.int .i64 x9) := by rw [cell_of_row w2 (w.heap.size) 9 _ _ _ hbx2]; rfl
  clear hbx2
  cases r5 with
  | false =>
    go_wp2_with fail
    have HBk := HB2
    clear s0 s1 s2 s3 s4 s5 s6 s7 s8 s9
    go_loopw [5, 6] (fun ok i wr => ∃ (k : Nat) (b : Bool), k ≤ more.length ∧ i = .int .i64 k ∧ ok = .bool b ∧ Hid (b = (false && (more.take k).all (inF xlo.length))) ∧ Hid (Below W1.heap.size W1 wr)) (fun _ i _ => more.length - (intOf i).toNat)
    case atStart => exact ⟨0, _, Nat.zero_le _, rfl, rfl, by unfold Hid; simp, HBk.out⟩
    case round =>
      obtain ⟨k, b, hk, rfl, rfl, hb, hB⟩ := hrel
      have hsz := hB.out.size
      have hbw : w.heap.size < wr.heap.size := by omega
      have hbx := (hB.out.block w.heap.size hz1).trans HBX.out
      have s0 : wr.cell? ⟨w.heap.size, 0, none⟩ = some (.string xn) := by rw [cell_of_row wr (w.heap.size) 0 _ _ _ hbx]; rfl
      have s1 : wr.cell? ⟨w.heap.size, 1, none⟩ = some (.int .i64 xp) := by rw [cell_of_row wr (w.heap.size) 1 _ _ _ hbx]; rfl
      have s2 : wr.cell? ⟨w.heap.size, 2, none⟩ = some (.slice fa xfr.length fc) := by rw [cell_of_row wr (w.heap.size) 2 _ _ _ hbx]; rfl
      have s3 : wr.cell? ⟨w.heap.size, 3, none⟩ = some (.slice ia xin.length ic) := by rw [cell_of_row wr (w.heap.size) 3 _ _ _ hbx]; rfl
      have s4 : wr.cell? ⟨w.heap.size, 4, none⟩ = some (.slice la xlo.length lc) := by rw [cell_of_row wr (w.heap.size) 4 _ _ _ hbx]; rfl
      have s5 : wr.cell? ⟨w.heap.size, 5, none⟩ = some (.int .i64 x5) := by rw [cell_of_row wr (w.heap.size) 5 _ _ _ hbx]; rfl
      have s6 : wr.cell? ⟨w.heap.size, 6, none⟩ = some (.int .i64 x6) := by rw [cell_of_row wr (w.heap.size) 6 _ _ _ hbx]; rfl
      have s7 : wr.cell? ⟨w.heap.size, 7, none⟩ = some (.int .i64 x7) := by rw [cell_of_row wr (w.heap.size) 7 _ _ _ hbx]; rfl
      have s8 : wr.cell? ⟨w.heap.size, 8, none⟩ = some (.int .i64 x8) := by rw [cell_of_row wr (w.heap.size) 8 _ _ _ hbx]; rfl
      have s9 : wr.cell? ⟨w.heap.size, 9, none⟩ = some (.int .i64 x9) := by rw [cell_of_row wr (w.heap.size) 9 _ _ _ hbx]; rfl
      clear hbx
      by_cases hlt : k < more.length
      · obtain ⟨ba, oa, rfl, hba, hca⟩ := HM.out (by omega)
        have hba2 : ba < wr.heap.size := by omega
        have m0 := ((HG.out.trans (hB.out.mono hzz)).cell (p := ⟨ba, oa + k * 1 + 0, none⟩) hba).trans (hca k hlt 0 (by omega))
        simp only [iEnc, Nat.mul_one, Nat.add_zero] at m0
        have HS := Lib.hid (all_snoc (inF xlo.length) more k hlt)
        clear hca
        generalize more.getD k default = y at *
        obtain ⟨r, HR⟩ : ∃ r, Hid (inF xlo.length y = r) := ⟨_, rfl⟩
        go_wp2_with fail
        go_region_law (first | (go_simp; go_at_call 24; refine (inside_is ⟨xn, xp, .slice fa xfr.length fc, .slice ia xin.length ic, .slice la xlo.length lc, x5, x6, x7, x8, x9, xfr, xin, xlo⟩ _ _ wr.drew (HX.out.keep (HG.out.trans ((hB.out.drew).mono hzz))) HR).mono ?_; rintro e w3 ⟨rfl, hw3⟩))
        all_goals
          have HB3 : Hid (Below W1.heap.size W1 w3) := hB.out.drew.trans (hw3.mono hsz)
          have HBB : Hid ((b && r) = (false && (more.take (k + 1)).all (inF xlo.length))) := by unfold Hid; rw [HS.out, HR.out, hb.out, Bool.and_assoc]
          clear hw3 s0 s1 s2 s3 s4 s5 s6 s7 s8 s9
          cases b
          all_goals
            go_wp2
            go_roundw
            case rel => exact ⟨k + 1, _, by omega, by go_num, rfl, HBB, HB3⟩
            case measure => simp [intOf]; omega
      · obtain rfl : k = more.length := by omega
        have hb1 := hb.out
        rw [List.take_length] at hb1
        have HB1 := Lib.hid hb1
        clear hb1 hb hlt hk
        obtain ⟨wo, rfl⟩ : ∃ wo : World, wo = wr := ⟨_, rfl⟩
        obtain ⟨b1, rfl⟩ : ∃ b1, b1 = b := ⟨_, rfl⟩
        clear s0 s1 s2 s3 s4 s5 s6 s7 s8 s9
        go_wp2_with fail
        go_loopw [5, 8] (fun ok i wr => ∃ (k : Nat) (b : Bool), k ≤ xlo.length ∧ i = .int .i64 k ∧ ok = .bool b ∧ Hid (b = (b1 && (xlo.take k).all (loB xlo.length))) ∧ Hid (Below W1.heap.size W1 wr)) (fun _ i _ => xlo.length - (intOf i).toNat)
        case atStart => exact ⟨0, _, Nat.zero_le _, rfl, rfl, by unfold Hid; simp, hB⟩
        case round =>
          clear hsz hbw hB
          obtain ⟨k, b, hk, rfl, rfl, hb, hB⟩ := hrel
          have hsz := hB.out.size
          have hbw : w.heap.size < wr.heap.size := by omega
          have hbx := (hB.out.block w.heap.size hz1).trans HBX.out
          have s0 : wr.cell? ⟨w.heap.size, 0, none⟩ = some (.string xn) := by rw [cell_of_row wr (w.heap.size) 0 _ _ _ hbx]; rfl
          have s1 : wr.cell? ⟨w.heap.size, 1, none⟩ = some (.int .i64 xp) := by rw [cell_of_row wr (w.heap.size) 1 _ _ _ hbx]; rfl
          have s2 : wr.cell? ⟨w.heap.size, 2, none⟩ = some (.slice fa xfr.length fc) := by rw [cell_of_row wr (w.heap.size) 2 _ _ _ hbx]; rfl
          have s3 : wr.cell? ⟨w.heap.size, 3, none⟩ = some (.slice ia xin.length ic) := by rw [cell_of_row wr (w.heap.size) 3 _ _ _ hbx]; rfl
          have s4 : wr.cell? ⟨w.heap.size, 4, none⟩ = some (.slice la xlo.length lc) := by rw [cell_of_row wr (w.heap.size) 4 _ _ _ hbx]; rfl
          have s5 : wr.cell? ⟨w.heap.size, 5, none⟩ = some (.int .i64 x5) := by rw [cell_of_row wr (w.heap.size) 5 _ _ _ hbx]; rfl
          have s6 : wr.cell? ⟨w.heap.size, 6, none⟩ = some (.int .i64 x6) := by rw [cell_of_row wr (w.heap.size) 6 _ _ _ hbx]; rfl
          have s7 : wr.cell? ⟨w.heap.size, 7, none⟩ = some (.int .i64 x7) := by rw [cell_of_row wr (w.heap.size) 7 _ _ _ hbx]; rfl
          have s8 : wr.cell? ⟨w.heap.size, 8, none⟩ = some (.int .i64 x8) := by rw [cell_of_row wr (w.heap.size) 8 _ _ _ hbx]; rfl
          have s9 : wr.cell? ⟨w.heap.size, 9, none⟩ = some (.int .i64 x9) := by rw [cell_of_row wr (w.heap.size) 9 _ _ _ hbx]; rfl
          clear hbx
          by_cases hlt : k < xlo.length
          · obtain ⟨ba, oa, rfl, hba, hca⟩ := HL.out (by omega)
            have hba2 : ba < wr.heap.size := by omega
            have HBw : Hid (Below w.heap.size w wr) := HG.out.trans (hB.out.mono hzz)
            have hca := fun j hj => (HBw.out.cell (p := ⟨ba, oa + k * 7 + j, none⟩) hba).trans (hca k hlt j hj)
            have HS := Lib.hid (all_snoc (loB xlo.length) xlo k hlt)
            have hrd := (HX.out.locs (xlo.getD k default) (mem_getD hlt)).keep HBw.out
            have hsm := HSM.out (xlo.getD k default) (mem_getD hlt)
            generalize xlo.getD k default = y at *
            obtain ⟨yo, ye, y2, y3, y4, y5, y6, yl, ys⟩ := y
            have HRD := Lib.hid hrd; have HSMM := Lib.hid hsm
            obtain ⟨a4, q4, ho1, -, -⟩ := sl_open hrd.ov
            obtain ⟨a5, q5, ho2, -, -⟩ := sl_open hrd.ev
            simp only at ho1 ho2
            subst ho1; subst ho2
            clear hrd hsm
            have d0 := hca 0 (by omega); have d1 := hca 1 (by omega); have d2 := hca 2 (by omega); have d3 := hca 3 (by omega); have d4 := hca 4 (by omega); have d5 := hca 5 (by omega); have d6 := hca 6 (by omega)
            clear hca
            simp only [LoD.enc, Nat.add_zero] at d0 d1 d2 d3 d4 d5 d6
            go_wp2_with fail
            refine (lists_any ⟨.slice a4 yl.length q4, .slice a5 ys.length q5, y2, y3, y4, y5, y6, yl, ys⟩ wr HRD.out HSMM.out.en HSMM.out.ez).mono ?_
            rintro e w3 ⟨v3, rfl, ho3, hw3⟩
            have HB3 : Hid (Below W1.heap.size W1 w3) := hB.out.trans (hw3.mono hsz)
            have HSL := Lib.hid (sl_of_ow ho3)
            have HMEM : Hid (∀ e ∈ ((⟨.slice a4 yl.length q4, yl⟩ : EsD) :: ys), Sl w3 9 TrD.enc e.v e.l) := fun e he => by
              rcases List.mem_cons.1 he with rfl | h
              · exact HRD.out.ov.keep hw3
              · exact (HRD.out.esc e h).1.keep hw3
            have HLO : Hid (loB xlo.length ⟨.slice a4 yl.length q4, .slice a5 ys.length q5, y2, y3, y4, y5, y6, yl, ys⟩ = (((⟨.slice a4 yl.length q4, yl⟩ : EsD) :: ys).all fun e => toB xlo.length e.l)) := rfl
            rw [HLO.out] at HS
            have hz3 := HB3.out.size
            clear hw3 ho3 d0 d1 d2 d3 d4 d5 d6 s0 s1 s2 s3 s4 s5 s6 s7 s8 s9
            generalize ((⟨.slice a4 yl.length q4, yl⟩ : EsD) :: ys) = LS at *
            obtain ⟨a9, q9, rfl, mls, HLS⟩ := sl_open HSL.out
            obtain ⟨wo2, rfl⟩ : ∃ wo2 : World, wo2 = wr := ⟨_, rfl⟩
            obtain ⟨b2, rfl⟩ : ∃ b2, b2 = b := ⟨_, rfl⟩
            go_wp2_with fail
            go_loopw [5, 10] (fun ok i wr => ∃ (j : Nat) (b : Bool), j ≤ LS.length ∧ i = .int .i64 j ∧ ok = .bool b ∧ Hid (b = (b2 && (LS.take j).all fun e => toB xlo.length e.l)) ∧ Hid (Below w3.heap.size w3 wr)) (fun _ i _ => LS.length - (intOf i).toNat)
            case atStart => exact ⟨0, _, Nat.zero_le _, rfl, rfl, by unfold Hid; simp, Below.refl _ _⟩
            case round =>
              obtain ⟨j, b, hj, rfl, rfl, hbj, hBj⟩ := hrel
              by_cases hjl : j < LS.length
              · obtain ⟨be, oe, rfl, hbe, hce⟩ := HLS.out (by omega)
                have hbee := hce j hjl 0 (by omega)
                have HSJ := Lib.hid (all_snoc (fun e : EsD => toB xlo.length e.l) LS j hjl)
                have hmj := HMEM.out (LS.getD j default) (mem_getD hjl)
                clear hce
                generalize LS.getD j default = z at *
                obtain ⟨zv, zl⟩ := z
                simp only [EsD.enc, Nat.mul_one, Nat.add_zero] at hbee hmj HSJ
                obtain ⟨az, qz, rfl, mzl, HZ⟩ := sl_open hmj
                have HBE := Lib.hid hbee
                clear hmj hbee
                have hszj := hBj.out.size
                have f0 := (hBj.out.cell (p := ⟨be, oe + j, none⟩) hbe).trans HBE.out
                obtain ⟨wo3, rfl⟩ : ∃ wo3 : World, wo3 = wr := ⟨_, rfl⟩
                obtain ⟨b3, rfl⟩ : ∃ b3, b3 = b := ⟨_, rfl⟩
                have hbe2 : be < wo3.heap.size := by omega
                go_wp2_with fail
                go_loopw [5, 11] (fun ok i wr => ∃ (m : Nat) (b : Bool), m ≤ zl.length ∧ i = .int .i64 m ∧ ok = .bool b ∧ Hid (b = (b3 && (zl.take m).all fun t => inF xlo.length t.to)) ∧ Hid (Below w3.heap.size w3 wr)) (fun _ i _ => zl.length - (intOf i).toNat)
                case atStart => exact ⟨0, _, Nat.zero_le _, rfl, rfl, by unfold Hid; simp, hBj⟩
                case round =>
                  obtain ⟨m, b, hm, rfl, rfl, hbm, hBm⟩ := hrel
                  have hszm := hBm.out.size
                  have g0 := (hBm.out.cell (p := ⟨be, oe + j, none⟩) hbe).trans HBE.out
                  have hbe3 : be < wr.heap.size := by omega
                  have hbw3 : w.heap.size < wr.heap.size := by omega
                  have HB4 : Hid (Below W1.heap.size W1 wr) := HB3.out.trans (hBm.out.mono hz3)
                  have hbx := (HB4.out.block w.heap.size hz1).trans HBX.out
                  have s0 : wr.cell? ⟨w.heap.size, 0, none⟩ = some (.string xn) := by rw [cell_of_row wr (w.heap.size) 0 _ _ _ hbx]; rfl
                  have s1 : wr.cell? ⟨w.heap.size, 1, none⟩ = some (.int .i64 xp) := by rw [cell_of_row wr (w.heap.size) 1 _ _ _ hbx]; rfl
                  have s2 : wr.cell? ⟨w.heap.size, 2, none⟩ = some (.slice fa xfr.length fc) := by rw [cell_of_row wr (w.heap.size) 2 _ _ _ hbx]; rfl
                  have s3 : wr.cell? ⟨w.heap.size, 3, none⟩ = some (.slice ia xin.length ic) := by rw [cell_of_row wr (w.heap.size) 3 _ _ _ hbx]; rfl
                  have s4 : wr.cell? ⟨w.heap.size, 4, none⟩ = some (.slice (some ⟨ba, oa, none⟩) xlo.length lc) := by rw [cell_of_row wr (w.heap.size) 4 _ _ _ hbx]; rfl
                  have s5 : wr.cell? ⟨w.heap.size, 5, none⟩ = some (.int .i64 x5) := by rw [cell_of_row wr (w.heap.size) 5 _ _ _ hbx]; rfl
                  have s6 : wr.cell? ⟨w.heap.size, 6, none⟩ = some (.int .i64 x6) := by rw [cell_of_row wr (w.heap.size) 6 _ _ _ hbx]; rfl
                  have s7 : wr.cell? ⟨w.heap.size, 7, none⟩ = some (.int .i64 x7) := by rw [cell_of_row wr (w.heap.size) 7 _ _ _ hbx]; rfl
                  have s8 : wr.cell? ⟨w.heap.size, 8, none⟩ = some (.int .i64 x8) := by rw [cell_of_row wr (w.heap.size) 8 _ _ _ hbx]; rfl
                  have s9 : wr.cell? ⟨w.heap.size, 9, none⟩ = some (.int .i64 x9) := by rw [cell_of_row wr (w.heap.size) 9 _ _ _ hbx]; rfl
                  clear hbx
                  by_cases hml : m < zl.length
                  · obtain ⟨bt, ot, rfl, hbt, hct⟩ := HZ.out (by omega)
                    have t7 := (hBm.out.cell (p := ⟨bt, ot + m * 9 + 7, none⟩) hbt).trans (hct m hml 7 (by omega))
                    have hbt2 : bt < wr.heap.size := by omega
                    have HSM2 := Lib.hid (all_snoc (fun t : TrD => inF xlo.length t.to) zl m hml)
                    clear hct
                    simp only [TrD.enc] at t7
                    generalize (zl.getD m default) = tt at *
                    generalize tt.to = y at *
                    obtain ⟨r, HR⟩ : ∃ r, Hid (inF xlo.length y = r) := ⟨_, rfl⟩
                    go_wp2_with fail
                    go_region_law (first | (go_simp; go_at_call 24; refine (inside_is ⟨xn, xp, .slice fa xfr.length fc, .slice ia xin.length ic, .slice (some ⟨ba, oa, none⟩) xlo.length lc, x5, x6, x7, x8, x9, xfr, xin, xlo⟩ _ _ wr.drew (HX.out.keep (HG.out.trans ((HB4.out.drew).mono hzz))) HR).mono ?_; rintro e w5 ⟨rfl, hw5⟩))
                    all_goals
                      have HB5 : Hid (Below w3.heap.size w3 w5) := hBm.out.drew.trans (hw5.mono hszm)
                      have HBB : Hid ((b && r) = (b3 && (zl.take (m + 1)).all fun t => inF xlo.length t.to)) := by unfold Hid; rw [HSM2.out, HR.out, hbm.out, Bool.and_assoc]
                      clear hw5 s0 s1 s2 s3 s4 s5 s6 s7 s8 s9
                      cases b
                      all_goals
                        go_wp2
                        go_roundw
                        case rel => exact ⟨m + 1, _, by omega, by go_num, rfl, HBB, HB5⟩
                        case measure => simp [intOf]; omega
                  · obtain rfl : m = zl.length := by omega
                    have hb2 := hbm.out
                    rw [List.take_length] at hb2
                    have HBB : Hid (b = (b2 && (LS.take (j + 1)).all fun e => toB xlo.length e.l)) := by
                      unfold Hid
                      rw [HSJ.out, hb2, hbj.out, Bool.and_assoc]
                      rfl
                    clear hb2 s0 s1 s2 s3 s4 s5 s6 s7 s8 s9
                    go_wp2
                    go_roundw
                    case rel => exact ⟨j + 1, _, by omega, by go_num, rfl, HBB, hBm⟩
                    case measure => simp [intOf]; omega
              · obtain rfl : j = LS.length := by omega
                have hb2 := hbj.out
                rw [List.take_length] at hb2
                have HBB : Hid (b = (b1 && (xlo.take (k + 1)).all (loB xlo.length))) := by
                  unfold Hid
                  rw [HS.out, hb2, hb.out, Bool.and_assoc]
                have HB5 : Hid (Below W1.heap.size W1 wr) := HB3.out.trans (hBj.out.mono hz3)
                clear hb2
                go_wp2
                go_roundw
                case rel => exact ⟨k + 1, _, by omega, by go_num, rfl, HBB, HB5⟩
                case measure => simp [intOf]; omega
          · obtain rfl : k = xlo.length := by omega
            have hb2 := hb.out
            rw [List.take_length] at hb2
            have HBw : Hid (Below w.heap.size w wr) := HG.out.trans (hB.out.mono hzz)
            have HFB : Hid (b = (false && more.all (inF xlo.length) && xlo.all (loB xlo.length))) := by unfold Hid; rw [hb2, HB1.out]
            clear hb2
            go_wp2
            go_ret
            exact ⟨retb (by rw [HFB.out]; simp), HBw.out⟩
  | true =>
    go_wp2_with fail
    refine (inside_is ⟨xn, xp, .slice fa xfr.length fc, .slice ia xin.length ic, .slice la xlo.length lc, x5, x6, x7, x8, x9, xfr, xin, xlo⟩ _ _ w2 (HX.out.keep (HG.out.trans (HB2.out.mono hzz))) HR6).mono ?_
    rintro e w3 ⟨rfl, hw3⟩
    have HBk : Hid (Below W1.heap.size W1 w3) := HB2.out.trans (hw3.mono hz2)
    clear hw3 s0 s1 s2 s3 s4 s5 s6 s7 s8 s9
    go_wp2_with fail
    go_loopw [5, 6] (fun ok i wr => ∃ (k : Nat) (b : Bool), k ≤ more.length ∧ i = .int .i64 k ∧ ok = .bool b ∧ Hid (b = (r6 && (more.take k).all (inF xlo.length))) ∧ Hid (Below W1.heap.size W1 wr)) (fun _ i _ => more.length - (intOf i).toNat)
    case atStart => exact ⟨0, _, Nat.zero_le _, rfl, rfl, by unfold Hid; simp, HBk.out⟩
    case round =>
      obtain ⟨k, b, hk, rfl, rfl, hb, hB⟩ := hrel
      have hsz := hB.out.size
      have hbw : w.heap.size < wr.heap.size := by omega
      have hbx := (hB.out.block w.heap.size hz1).trans HBX.out
      have s0 : wr.cell? ⟨w.heap.size, 0, none⟩ = some (.string xn) := by rw [cell_of_row wr (w.heap.size) 0 _ _ _ hbx]; rfl
      have s1 : wr.cell? ⟨w.heap.size, 1, none⟩ = some (.int .i64 xp) := by rw [cell_of_row wr (w.heap.size) 1 _ _ _ hbx]; rfl
      have s2 : wr.cell? ⟨w.heap.size, 2, none⟩ = some (.slice fa xfr.length fc) := by rw [cell_of_row wr (w.heap.size) 2 _ _ _ hbx]; rfl
      have s3 : wr.cell? ⟨w.heap.size, 3, none⟩ = some (.slice ia xin.length ic) := by rw [cell_of_row wr (w.heap.size) 3 _ _ _ hbx]; rfl
      have s4 : wr.cell? ⟨w.heap.size, 4, none⟩ = some (.slice la xlo.length lc) := by rw [cell_of_row wr (w.heap.size) 4 _ _ _ hbx]; rfl
      have s5 : wr.cell? ⟨w.heap.size, 5, none⟩ = some (.int .i64 x5) := by rw [cell_of_row wr (w.heap.size) 5 _ _ _ hbx]; rfl
      have s6 : wr.cell? ⟨w.heap.size, 6, none⟩ = some (.int .i64 x6) := by rw [cell_of_row wr (w.heap.size) 6 _ _ _ hbx]; rfl
      have s7 : wr.cell? ⟨w.heap.size, 7, none⟩ = some (.int .i64 x7) := by rw [cell_of_row wr (w.heap.size) 7 _ _ _ hbx]; rfl
      have s8 : wr.cell? ⟨w.heap.size, 8, none⟩ = some (.int .i64 x8) := by rw [cell_of_row wr (w.heap.size) 8 _ _ _ hbx]; rfl
      have s9 : wr.cell? ⟨w.heap.size, 9, none⟩ = some (.int .i64 x9) := by rw [cell_of_row wr (w.heap.size) 9 _ _ _ hbx]; rfl
      clear hbx
      by_cases hlt : k < more.length
      · obtain ⟨ba, oa, rfl, hba, hca⟩ := HM.out (by omega)
        have hba2 : ba < wr.heap.size := by omega
        have m0 := ((HG.out.trans (hB.out.mono hzz)).cell (p := ⟨ba, oa + k * 1 + 0, none⟩) hba).trans (hca k hlt 0 (by omega))
        simp only [iEnc, Nat.mul_one, Nat.add_zero] at m0
        have HS := Lib.hid (all_snoc (inF xlo.length) more k hlt)
        clear hca
        generalize more.getD k default = y at *
        obtain ⟨r, HR⟩ : ∃ r, Hid (inF xlo.length y = r) := ⟨_, rfl⟩
        go_wp2_with fail
        go_region_law (first | (go_simp; go_at_call 24; refine (inside_is ⟨xn, xp, .slice fa xfr.length fc, .slice ia xin.length ic, .slice la xlo.length lc, x5, x6, x7, x8, x9, xfr, xin, xlo⟩ _ _ wr.drew (HX.out.keep (HG.out.trans ((hB.out.drew).mono hzz))) HR).mono ?_; rintro e w3 ⟨rfl, hw3⟩))
        all_goals
          have HB3 : Hid (Below W1.heap.size W1 w3) := hB.out.drew.trans (hw3.mono hsz)
          have HBB : Hid ((b && r) = (r6 && (more.take (k + 1)).all (inF xlo.length))) := by unfold Hid; rw [HS.out, HR.out, hb.out, Bool.and_assoc]
          clear hw3 s0 s1 s2 s3 s4 s5 s6 s7 s8 s9
          cases b
          all_goals
            go_wp2
            go_roundw
            case rel => exact ⟨k + 1, _, by omega, by go_num, rfl, HBB, HB3⟩
            case measure => simp [intOf]; omega
      · obtain rfl : k = more.length := by omega
        have hb1 := hb.out
        rw [List.take_length] at hb1
        have HB1 := Lib.hid hb1
        clear hb1 hb hlt hk
        obtain ⟨wo, rfl⟩ : ∃ wo : World, wo = wr := ⟨_, rfl⟩
        obtain ⟨b1, rfl⟩ : ∃ b1, b1 = b := ⟨_, rfl⟩
        clear s0 s1 s2 s3 s4 s5 s6 s7 s8 s9
        go_wp2_with fail
        go_loopw [5, 8] (fun ok i wr => ∃ (k : Nat) (b : Bool), k ≤ xlo.length ∧ i = .int .i64 k ∧ ok = .bool b ∧ Hid (b = (b1 && (xlo.take k).all (loB xlo.length))) ∧ Hid (Below W1.heap.size W1 wr)) (fun _ i _ => xlo.length - (intOf i).toNat)
        case atStart => exact ⟨0, _, Nat.zero_le _, rfl, rfl, by unfold Hid; simp, hB⟩
        case round =>
          clear hsz hbw hB
          obtain ⟨k, b, hk, rfl, rfl, hb, hB⟩ := hrel
          have hsz := hB.out.size
          have hbw : w.heap.size < wr.heap.size := by omega
          have hbx := (hB.out.block w.heap.size hz1).trans HBX.out
          have s0 : wr.cell? ⟨w.heap.size, 0, none⟩ = some (.string xn) := by rw [cell_of_row wr (w.heap.size) 0 _ _ _ hbx]; rfl
          have s1 : wr.cell? ⟨w.heap.size, 1, none⟩ = some (.int .i64 xp) := by rw [cell_of_row wr (w.heap.size) 1 _ _ _ hbx]; rfl
          have s2 : wr.cell? ⟨w.heap.size, 2, none⟩ = some (.slice fa xfr.length fc) := by rw [cell_of_row wr (w.heap.size) 2 _ _ _ hbx]; rfl
          have s3 : wr.cell? ⟨w.heap.size, 3, none⟩ = some (.slice ia xin.length ic) := by rw [cell_of_row wr (w.heap.size) 3 _ _ _ hbx]; rfl
          have s4 : wr.cell? ⟨w.heap.size, 4, none⟩ = some (.slice la xlo.length lc) := by rw [cell_of_row wr (w.heap.size) 4 _ _ _ hbx]; rfl
          have s5 : wr.cell? ⟨w.heap.size, 5, none⟩ = some (.int .i64 x5) := by rw [cell_of_row wr (w.heap.size) 5 _ _ _ hbx]; rfl
          have s6 : wr.cell? ⟨w.heap.size, 6, none⟩ = some (.int .i64 x6) := by rw [cell_of_row wr (w.heap.size) 6 _ _ _ hbx]; rfl
          have s7 : wr.cell? ⟨w.heap.size, 7, none⟩ = some (.int .i64 x7) := by rw [cell_of_row wr (w.heap.size) 7 _ _ _ hbx]; rfl
          have s8 : wr.cell? ⟨w.heap.size, 8, none⟩ = some (.int .i64 x8) := by rw [cell_of_row wr (w.heap.size) 8 _ _ _ hbx]; rfl
          have s9 : wr.cell? ⟨w.heap.size, 9, none⟩ = some (.int .i64 x9) := by rw [cell_of_row wr (w.heap.size) 9 _ _ _ hbx]; rfl
          clear hbx
          by_cases hlt : k < xlo.length
          · obtain ⟨ba, oa, rfl, hba, hca⟩ := HL.out (by omega)
            have hba2 : ba < wr.heap.size := by omega
            have HBw : Hid (Below w.heap.size w wr) := HG.out.trans (hB.out.mono hzz)
            have hca := fun j hj => (HBw.out.cell (p := ⟨ba, oa + k * 7 + j, none⟩) hba).trans (hca k hlt j hj)
            have HS := Lib.hid (all_snoc (loB xlo.length) xlo k hlt)
            have hrd := (HX.out.locs (xlo.getD k default) (mem_getD hlt)).keep HBw.out
            have hsm := HSM.out (xlo.getD k default) (mem_getD hlt)
            generalize xlo.getD k default = y at *
            obtain ⟨yo, ye, y2, y3, y4, y5, y6, yl, ys⟩ := y
            have HRD := Lib.hid hrd; have HSMM := Lib.hid hsm
            obtain ⟨a4, q4, ho1, -, -⟩ := sl_open hrd.ov
            obtain ⟨a5, q5, ho2, -, -⟩ := sl_open hrd.ev
            simp only at ho1 ho2
            subst ho1; subst ho2
            clear hrd hsm
            have d0 := hca 0 (by omega); have d1 := hca 1 (by omega); have d2 := hca 2 (by omega); have d3 := hca 3 (by omega); have d4 := hca 4 (by omega); have d5 := hca 5 (by omega); have d6 := hca 6 (by omega)
            clear hca
            simp only [LoD.enc, Nat.add_zero] at d0 d1 d2 d3 d4 d5 d6
            go_wp2_with fail
            refine (lists_any ⟨.slice a4 yl.length q4, .slice a5 ys.length q5, y2, y3, y4, y5, y6, yl, ys⟩ wr HRD.out HSMM.out.en HSMM.out.ez).mono ?_
            rintro e w3 ⟨v3, rfl, ho3, hw3⟩
            have HB3 : Hid (Below W1.heap.size W1 w3) := hB.out.trans (hw3.mono hsz)
            have HSL := Lib.hid (sl_of_ow ho3)
            have HMEM : Hid (∀ e ∈ ((⟨.slice a4 yl.length q4, yl⟩ : EsD) :: ys), Sl w3 9 TrD.enc e.v e.l) := fun e he => by
              rcases List.mem_cons.1 he with rfl | h
              · exact HRD.out.ov.keep hw3
              · exact (HRD.out.esc e h).1.keep hw3
            have HLO : Hid (loB xlo.length ⟨.slice a4 yl.length q4, .slice a5 ys.length q5, y2, y3, y4, y5, y6, yl, ys⟩ = (((⟨.slice a4 yl.length q4, yl⟩ : EsD) :: ys).all fun e => toB xlo.length e.l)) := rfl
            rw [HLO.out] at HS
            have hz3 := HB3.out.size
            clear hw3 ho3 d0 d1 d2 d3 d4 d5 d6 s0 s1 s2 s3 s4 s5 s6 s7 s8 s9
            generalize ((⟨.slice a4 yl.length q4, yl⟩ : EsD) :: ys) = LS at *
            obtain ⟨a9, q9, rfl, mls, HLS⟩ := sl_open HSL.out
            obtain ⟨wo2, rfl⟩ : ∃ wo2 : World, wo2 = wr := ⟨_, rfl⟩
            obtain ⟨b2, rfl⟩ : ∃ b2, b2 = b := ⟨_, rfl⟩
            go_wp2_with fail
            go_loopw [5, 10] (fun ok i wr => ∃ (j : Nat) (b : Bool), j ≤ LS.length ∧ i = .int .i64 j ∧ ok = .bool b ∧ Hid (b = (b2 && (LS.take j).all fun e => toB xlo.length e.l)) ∧ Hid (Below w3.heap.size w3 wr)) (fun _ i _ => LS.length - (intOf i).toNat)
            case atStart => exact ⟨0, _, Nat.zero_le _, rfl, rfl, by unfold Hid; simp, Below.refl _ _⟩
            case round =>
              obtain ⟨j, b, hj, rfl, rfl, hbj, hBj⟩ := hrel
              by_cases hjl : j < LS.length
              · obtain ⟨be, oe, rfl, hbe, hce⟩ := HLS.out (by omega)
                have hbee := hce j hjl 0 (by omega)
                have HSJ := Lib.hid (all_snoc (fun e : EsD => toB xlo.length e.l) LS j hjl)
                have hmj := HMEM.out (LS.getD j default) (mem_getD hjl)
                clear hce
                generalize LS.getD j default = z at *
                obtain ⟨zv, zl⟩ := z
                simp only [EsD.enc, Nat.mul_one, Nat.add_zero] at hbee hmj HSJ
                obtain ⟨az, qz, rfl, mzl, HZ⟩ := sl_open hmj
                have HBE := Lib.hid hbee
                clear hmj hbee
                have hszj := hBj.out.size
                have f0 := (hBj.out.cell (p := ⟨be, oe + j, none⟩) hbe).trans HBE.out
                obtain ⟨wo3, rfl⟩ : ∃ wo3 : World, wo3 = wr := ⟨_, rfl⟩
                obtain ⟨b3, rfl⟩ : ∃ b3, b3 = b := ⟨_, rfl⟩
                have hbe2 : be < wo3.heap.size := by omega
                go_wp2_with fail
                go_loopw [5, 11] (fun ok i wr => ∃ (m : Nat) (b : Bool), m ≤ zl.length ∧ i = .int .i64 m ∧ ok = .bool b ∧ Hid (b = (b3 && (zl.take m).all fun t => inF xlo.length t.to)) ∧ Hid (Below w3.heap.size w3 wr)) (fun _ i _ => zl.length - (intOf i).toNat)
                case atStart => exact ⟨0, _, Nat.zero_le _, rfl, rfl, by unfold Hid; simp, hBj⟩
                case round =>
                  obtain ⟨m, b, hm, rfl, rfl, hbm, hBm⟩ := hrel
                  have hszm := hBm.out.size
                  have g0 := (hBm.out.cell (p := ⟨be, oe + j, none⟩) hbe).trans HBE.out
                  have hbe3 : be < wr.heap.size := by omega
                  have hbw3 : w.heap.size < wr.heap.size := by omega
                  have HB4 : Hid (Below W1.heap.size W1 wr) := HB3.out.trans (hBm.out.mono hz3)
                  have hbx := (HB4.out.block w.heap.size hz1).trans HBX.out
                  have s0 : wr.cell? ⟨w.heap.size, 0, none⟩ = some (.string xn) := by rw [cell_of_row wr (w.heap.size) 0 _ _ _ hbx]; rfl
                  have s1 : wr.cell? ⟨w.heap.size, 1, none⟩ = some (.int .i64 xp) := by rw [cell_of_row wr (w.heap.size) 1 _ _ _ hbx]; rfl
                  have s2 : wr.cell? ⟨w.heap.size, 2, none⟩ = some (.slice fa xfr.length fc) := by rw [cell_of_row wr (w.heap.size) 2 _ _ _ hbx]; rfl
                  have s3 : wr.cell? ⟨w.heap.size, 3, none⟩ = some (.slice ia xin.length ic) := by rw [cell_of_row wr (w.heap.size) 3 _ _ _ hbx]; rfl
                  have s4 : wr.cell? ⟨w.heap.size, 4, none⟩ = some (.slice (some ⟨ba, oa, none⟩) xlo.length lc) := by rw [cell_of_row wr (w.heap.size) 4 _ _ _ hbx]; rfl
                  have s5 : wr.cell? ⟨w.heap.size, 5, none⟩ = some (.int .i64 x5) := by rw [cell_of_row wr (w.heap.size) 5 _ _ _ hbx]; rfl
                  have s6 : wr.cell? ⟨w.heap.size, 6, none⟩ = some (.int .i64 x6) := by rw [cell_of_row wr (w.heap.size) 6 _ _ _ hbx]; rfl
                  have s7 : wr.cell? ⟨w.heap.size, 7, none⟩ = some (.int .i64 x7) := by rw [cell_of_row wr (w.heap.size) 7 _ _ _ hbx]; rfl
                  have s8 : wr.cell? ⟨w.heap.size, 8, none⟩ = some (.int .i64 x8) := by rw [cell_of_row wr (w.heap.size) 8 _ _ _ hbx]; rfl
                  have s9 : wr.cell? ⟨w.heap.size, 9, none⟩ = some (.int .i64 x9) := by rw [cell_of_row wr (w.heap.size) 9 _ _ _ hbx]; rfl
                  clear hbx
                  by_cases hml : m < zl.length
                  · obtain ⟨bt, ot, rfl, hbt, hct⟩ := HZ.out (by omega)
                    have t7 := (hBm.out.cell (p := ⟨bt, ot + m * 9 + 7, none⟩) hbt).trans (hct m hml 7 (by omega))
                    have hbt2 : bt < wr.heap.size := by omega
                    have HSM2 := Lib.hid (all_snoc (fun t : TrD => inF xlo.length t.to) zl m hml)
                    clear hct
                    simp only [TrD.enc] at t7
                    generalize (zl.getD m default) = tt at *
                    generalize tt.to = y at *
                    obtain ⟨r, HR⟩ : ∃ r, Hid (inF xlo.length y = r) := ⟨_, rfl⟩
                    go_wp2_with fail
                    go_region_law (first | (go_simp; go_at_call 24; refine (inside_is ⟨xn, xp, .slice fa xfr.length fc, .slice ia xin.length ic, .slice (some ⟨ba, oa, none⟩) xlo.length lc, x5, x6, x7, x8, x9, xfr, xin, xlo⟩ _ _ wr.drew (HX.out.keep (HG.out.trans ((HB4.out.drew).mono hzz))) HR).mono ?_; rintro e w5 ⟨rfl, hw5⟩))
                    all_goals
                      have HB5 : Hid (Below w3.heap.size w3 w5) := hBm.out.drew.trans (hw5.mono hszm)
                      have HBB : Hid ((b && r) = (b3 && (zl.take (m + 1)).all fun t => inF xlo.length t.to)) := by unfold Hid; rw [HSM2.out, HR.out, hbm.out, Bool.and_assoc]
                      clear hw5 s0 s1 s2 s3 s4 s5 s6 s7 s8 s9
                      cases b
                      all_goals
                        go_wp2
                        go_roundw
                        case rel => exact ⟨m + 1, _, by omega, by go_num, rfl, HBB, HB5⟩
                        case measure => simp [intOf]; omega
                  · obtain rfl : m = zl.length := by omega
                    have hb2 := hbm.out
                    rw [List.take_length] at hb2
                    have HBB : Hid (b = (b2 && (LS.take (j + 1)).all fun e => toB xlo.length e.l)) := by
                      unfold Hid
                      rw [HSJ.out, hb2, hbj.out, Bool.and_assoc]
                      rfl
                    clear hb2 s0 s1 s2 s3 s4 s5 s6 s7 s8 s9
                    go_wp2
                    go_roundw
                    case rel => exact ⟨j + 1, _, by omega, by go_num, rfl, HBB, hBm⟩
                    case measure => simp [intOf]; omega
              · obtain rfl : j = LS.length := by omega
                have hb2 := hbj.out
                rw [List.take_length] at hb2
                have HBB : Hid (b = (b1 && (xlo.take (k + 1)).all (loB xlo.length))) := by
                  unfold Hid
                  rw [HS.out, hb2, hb.out, Bool.and_assoc]
                have HB5 : Hid (Below W1.heap.size W1 wr) := HB3.out.trans (hBj.out.mono hz3)
                clear hb2
                go_wp2
                go_roundw
                case rel => exact ⟨k + 1, _, by omega, by go_num, rfl, HBB, HB5⟩
                case measure => simp [intOf]; omega
          · obtain rfl : k = xlo.length := by omega
            have hb2 := hb.out
            rw [List.take_length] at hb2
            have HBw : Hid (Below w.heap.size w wr) := HG.out.trans (hB.out.mono hzz)
            have HFB : Hid (b = (r6 && more.all (inF xlo.length) && xlo.all (loB xlo.length))) := by unfold Hid; rw [hb2, HB1.out]
            clear hb2
            go_wp2
            go_ret
            exact ⟨retb (by rw [HFB.out]; simp), HBw.out⟩
end Go.Proofs.Ytioacgjggogflab

/-
  auto.Walk.
-/
import Derived.Test.YtioacgjggogflabQF
import Derived.StillTailTactics
namespace Go.Proofs.Ytioacgjggogflab
open Go.ChangeShapes Go.WideShapes Go.ChangeAt Go.RowKit Go.Deep Go.Joins Go.Instr
set_option maxRecDepth 100000 in
set_option maxHeartbeats 64000000 in
theorem awalk_any (x : PrD) (vm : Value) (more : List Int) (w : World) (hx : x.ok w) (hm : Sl w 1 iEnc vm more) (hmz : more.length ≤ 1048576) (hmn : Sn vm) :
    Calls Try.prog 4 #[x.val, vm] w fun e w' => (fitB x more = true → WalkA x more w e w') ∧ (fitB x more = false → e = .returned (.tuple #[zeroV, .slice none 0 0, .int .i64 16]) ∧ Below w.heap.size w w') := by
  have HX := Lib.hid hx; have HMS := Lib.hid hm; have HMN := Lib.hid hmn
  obtain ⟨xn, xp, xf, xi, xl, x5, x6, x7, x8, x9, xfr, xin, xlo⟩ := x
  obtain ⟨fa, fc, h1, -, -⟩ := sl_open hx.fv
  obtain ⟨ia, ic, h2, -, -⟩ := sl_open hx.iv
  obtain ⟨la, lc, h3, ml, HL⟩ := sl_open hx.lv
  have hxz := hx.lz
  simp only at h1 h2 h3 HL ml hxz
  subst h1; subst h2; subst h3
  obtain ⟨am, cm, rfl, mm, HM⟩ := sl_open hm
  clear hx hm hmn
  generalize hPP : (fun (e : Ending) (w' : World) => (fitB ⟨xn, xp, .slice fa xfr.length fc, .slice ia xin.length ic, .slice la xlo.length lc, x5, x6, x7, x8, x9, xfr, xin, xlo⟩ more = true → WalkA ⟨xn, xp, .slice fa xfr.length fc, .slice ia xin.length ic, .slice la xlo.length lc, x5, x6, x7, x8, x9, xfr, xin, xlo⟩ more w e w') ∧ (fitB ⟨xn, xp, .slice fa xfr.length fc, .slice ia xin.length ic, .slice la xlo.length lc, x5, x6, x7, x8, x9, xfr, xin, xlo⟩ more = false → e = .returned (.tuple #[zeroV, .slice none 0 0, .int .i64 16]) ∧ Below w.heap.size w w')) = PP
  have HPP := Lib.hid hPP; clear hPP
  obtain ⟨X, HXE⟩ : ∃ X : PrD, Hid (X = ⟨xn, xp, .slice fa xfr.length fc, .slice ia xin.length ic, .slice la xlo.length lc, x5, x6, x7, x8, x9, xfr, xin, xlo⟩) := ⟨_, rfl⟩
  unfold PrD.val
  simp only
  go_enter Try.func4, Try.ntmps4
  go_wp2_with (at_builtin; go_must (refine wpList_app elt27 rfl _ _ rfl w.heap.size iEnc (.slice (some ⟨w.heap.size + 1 + 1 + 1 + 1, 0, none⟩) 2 2) [x5, x6] rfl (own_ints2 _ _ _ _ _ (by simp) (by simp; omega)) (.slice am more.length cm) more rfl (HMS.out.keep (((((Below.refl _ _).alloc (Nat.le_refl _) _).alloc (by simp) _).alloc (by simp; omega) _).alloc (by simp; omega) _ |>.alloc (by simp; omega) _)) HMN.out (fun x _ j _ => rfl) (by simp; omega) (by simp; omega) ?c4))
  case c4 =>
    intro v1 w1 h1 h2
    obtain ⟨k0, k1, k2, k3, kb⟩ := five_grown w w1 _ _ _ _ _ _ rfl h2
    have HPB : Hid (PBox w1 w.heap.size X) := by rw [HXE.out]; exact k0
    have HZB : Hid (w1.heap[w.heap.size + 1]? = some (.cells ZARR 26 (0, 0))) := k1
    have HIB : Hid (w1.heap[w.heap.size + 1 + 1]? = some (.cells #[.func (.func 8) #[] #[.pointer (some ⟨w.heap.size, 0, none⟩)]] 42 (0, 0))) := k2
    have HKB : Hid (w1.heap[w.heap.size + 1 + 1 + 1]? = some (.cells #[.bool true] 4 (0, 0))) := k3
    have HB1 := Lib.hid kb
    obtain ⟨LL, HLL⟩ : ∃ LL, Hid (LL = x5 :: x6 :: more) := ⟨_, rfl⟩
    have HL1 : Hid (Sl w1 1 iEnc v1 LL) := by rw [HLL.out]; exact sl_of_ow h1
    have HNE : Hid (∀ q, v1.ownBlock = some q → ¬ q = w.heap.size + 1 + 1 + 1) := fun q hq e => by
      subst e
      exact ow_neE h1 k3 (by decide) hq
    have HFL : Hid (LL.all (inF xlo.length) = (inF xlo.length x5 && (inF xlo.length x6 && more.all (inF xlo.length)))) := by unfold Hid; rw [HLL.out]; simp
    have HLZ : Hid (LL.length = more.length + 2) := by unfold Hid; rw [HLL.out]; simp
    clear h1 h2 k0 k1 k2 k3 kb
    obtain ⟨a1, c1, rfl, m1, HLC⟩ := sl_open HL1.out
    have HLV : Hid (Sl w 7 LoD.enc X.lv X.locs) := by rw [HXE.out]; exact HX.out.lv
    have HXL : Hid (X.locs.length = xlo.length) := by rw [HXE.out]; rfl
    have hz1 : w.heap.size + 3 < w1.heap.size := by have := lt_of_block HKB.out; omega
    go_wp2_with fail
    as_aux_lemma =>
      go_loopw [36] (fun ii wr => ∃ k : Nat, k ≤ LL.length ∧ ii = .int .i64 k ∧ Hid (wr.heap[w.heap.size + 1 + 1 + 1]? = some (.cells #[.bool ((LL.take k).all (inF xlo.length))] 4 (0, 0))) ∧ Hid (OutsP (fun q => q = w.heap.size + 1 + 1 + 1) w1 wr)) (fun ii _ => LL.length - (intOf ii).toNat)
      case atStart => exact ⟨0, Nat.zero_le _, rfl, HKB, OutsP.refl _ _⟩
      case round =>
        as_aux_lemma =>
          obtain ⟨k, hk, rfl, hkb, ho⟩ := hrel
          have hsz := ho.out.size
          have hokr : w.heap.size + 1 + 1 + 1 < wr.heap.size := by omega
          by_cases hlt : k < LL.length
          · obtain ⟨bl, ol, rfl, hbl, hcl⟩ := HLC.out (by omega)
            have e0 := (World.cell?_of_block (a := ⟨bl, ol + k * 1 + 0, none⟩) (ho.out.block bl hbl (HNE.out bl rfl))).trans (hcl k hlt 0 (by omega))
            simp only [iEnc, Nat.mul_one, Nat.add_zero] at e0
            have HAS := Lib.hid (all_snoc (inF xlo.length) LL k hlt)
            clear hcl
            generalize LL.getD k default = y at *
            have hblr : bl < wr.heap.size := by omega
            obtain ⟨b, hb⟩ : ∃ b, Hid ((LL.take k).all (inF xlo.length) = b) := ⟨_, rfl⟩
            rw [hb.out] at hkb HAS
            have kb0 : wr.cell? ⟨w.heap.size + 1 + 1 + 1, 0, none⟩ = some (.bool b) := (cell_of_row wr _ 0 _ _ _ hkb.out).trans rfl
            have kz0 := frozen_of_row wr (w.heap.size + 1 + 1 + 1) 0 _ _ hkb.out
            have hib := (ho.out.block (w.heap.size + 1 + 1) (by omega) (by omega)).trans HIB.out
            have ib0 : wr.cell? ⟨w.heap.size + 1 + 1, 0, none⟩ = some (.func (.func 8) #[] #[.pointer (some ⟨w.heap.size, 0, none⟩)]) := (cell_of_row wr _ 0 _ _ _ hib).trans rfl
            have hk0 : (0 : Int) ≤ (k : Int) := by omega
            have hk1 : (k : Int) < (LL.length : Int) := by omega
            obtain ⟨wo, rfl⟩ : ∃ wo : World, wo = wr := ⟨_, rfl⟩
            cases b with
            | false =>
              have HK2 : Hid ((wo.setCell ⟨w.heap.size + 1 + 1 + 1, 0, none⟩ (.bool false)).heap[w.heap.size + 1 + 1 + 1]? = some (.cells #[.bool ((LL.take (k + 1)).all (inF xlo.length))] 4 (0, 0))) := by
                rw [HAS.out]
                exact heap_setCell_same wo _ 0 _ 4 _ hkb.out
              have HO2 : Hid (OutsP (fun q => q = w.heap.size + 1 + 1 + 1) w1 (wo.setCell ⟨w.heap.size + 1 + 1 + 1, 0, none⟩ (.bool false))) := ho.out.setCell (p := ⟨w.heap.size + 1 + 1 + 1, 0, none⟩) (.inl rfl) _
              go_wp2
              go_roundw
              case rel => exact ⟨k + 1, by omega, by go_num, HK2, HO2⟩
              case measure => simp [intOf]; omega
            | true =>
              obtain ⟨r, HR⟩ : ∃ r, Hid (inF xlo.length y = r) := ⟨_, rfl⟩
              rw [HR.out] at HAS
              have HR2 : Hid (inF X.locs.length y = r) := by rw [HXL.out]; exact HR
              have HPW : Hid (PBox wo w.heap.size X) := HPB.out.keep (ho.out.block w.heap.size (by omega) (by omega))
              have HLW : Hid (Sl wo 7 LoD.enc X.lv X.locs) := HLV.out.keep (HB1.out.trans (ho.out.below (by omega) (fun q hq => by omega)))
              go_wp2_with fail
              refine (in_is X w.heap.size y r wo HPW.out HLW.out HR2).mono ?_
              rintro e w2 ⟨rfl, hw2⟩
              have HW2 := Lib.hid hw2
              have hkb2 := (hw2.block _ hokr).trans hkb.out
              have kb2 : w2.cell? ⟨w.heap.size + 1 + 1 + 1, 0, none⟩ = some (.bool true) := (cell_of_row w2 _ 0 _ _ _ hkb2).trans rfl
              have kz2 := frozen_of_row w2 (w.heap.size + 1 + 1 + 1) 0 _ _ hkb2
              have hz2 := hw2.size
              have HK2 : Hid ((w2.setCell ⟨w.heap.size + 1 + 1 + 1, 0, none⟩ (.bool r)).heap[w.heap.size + 1 + 1 + 1]? = some (.cells #[.bool ((LL.take (k + 1)).all (inF xlo.length))] 4 (0, 0))) := by
                rw [HAS.out]
                exact heap_setCell_same w2 _ 0 _ 4 _ hkb2
              have HO2 : Hid (OutsP (fun q => q = w.heap.size + 1 + 1 + 1) w1 (w2.setCell ⟨w.heap.size + 1 + 1 + 1, 0, none⟩ (.bool r))) := (ho.out.trans (OutsP.of_below (S := fun q => q = w.heap.size + 1 + 1 + 1) hw2) (fun x hx => .inl hx)).setCell (p := ⟨w.heap.size + 1 + 1 + 1, 0, none⟩) (.inl rfl) _
              clear hw2
              go_wp2
              go_roundw
              case rel => exact ⟨k + 1, by omega, by go_num, HK2, HO2⟩
              case measure => simp [intOf]; omega
          · obtain rfl : k = LL.length := by omega
            rw [List.take_length] at hkb
            obtain ⟨b1, HB11⟩ : ∃ b, Hid (LL.all (inF xlo.length) = b) := ⟨_, rfl⟩
            rw [HB11.out] at hkb
            obtain ⟨w3, rfl⟩ : ∃ wo : World, wo = wr := ⟨_, rfl⟩
            have hpb3 := HPB.out.keep (ho.out.block w.heap.size (by omega) (by omega))
            have HPB3 := Lib.hid hpb3
            have pc4 : w3.cell? ⟨w.heap.size, 4, none⟩ = some (.slice la xlo.length lc) := by
              have h := hpb3.c4
              rw [HXE.out] at h
              exact h
            have hib := (ho.out.block (w.heap.size + 1 + 1) (by omega) (by omega)).trans HIB.out
            have hzb := (ho.out.block (w.heap.size + 1) (by omega) (by omega)).trans HZB.out
            have HIB3 := Lib.hid hib; have HZB3 := Lib.hid hzb; have HKB3 := hkb
            have HB3 : Hid (Below w.heap.size w w3) := HB1.out.trans (ho.out.below (by omega) (fun q hq => by omega))
            have hz3 : w.heap.size + 3 < w3.heap.size := by omega
            clear hpb3 hib hzb hkb ho HKB HZB HIB HPB
            have HYL : Hid (∀ t ∈ xlo, t.ok w) := HX.out.locs
            go_wp2_with fail
            as_aux_lemma =>
              go_loopw [50] (fun ii wr => ∃ k : Nat, k ≤ xlo.length ∧ ii = .int .i64 k ∧ Hid (wr.heap[w.heap.size + 1 + 1 + 1]? = some (.cells #[.bool (b1 && (xlo.take k).all (loB xlo.length))] 4 (0, 0))) ∧ Hid (OutsP (fun q => q = w.heap.size + 1 + 1 + 1) w3 wr)) (fun ii _ => xlo.length - (intOf ii).toNat)
              case atStart => exact ⟨0, Nat.zero_le _, rfl, by simpa using HKB3, OutsP.refl _ _⟩
              case round =>
                as_aux_lemma =>
                  obtain ⟨k, hk, rfl, hkb, ho⟩ := hrel
                  have hsz4 := ho.out.size
                  by_cases hlt : k < xlo.length
                  · have HBW : Hid (Below w.heap.size w wr) := HB3.out.trans (ho.out.below (by omega) (fun q hq => by omega))
                    obtain ⟨ba, oa, rfl, hba, hca⟩ := HL.out (by omega)
                    have hba2 : ba < wr.heap.size := by omega
                    have hca := fun j hj => (HBW.out.cell (p := ⟨ba, oa + k * 7 + j, none⟩) hba).trans (hca k hlt j hj)
                    have hyo := HYL.out (xlo.getD k default) (mem_getD hlt)
                    have HAS := Lib.hid (all_snoc (loB xlo.length) xlo k hlt)
                    generalize xlo.getD k default = y at *
                    obtain ⟨yo, ye, y2, y3, y4, y5, y6, yl, ys⟩ := y
                    obtain ⟨a4, q4, ho1, -, -⟩ := sl_open hyo.ov
                    obtain ⟨a5, q5, ho2, -, -⟩ := sl_open hyo.ev
                    simp only at ho1 ho2
                    subst ho1; subst ho2
                    have HYR := Lib.hid (lo_rd hyo)
                    clear hyo
                    have d0 := hca 0 (by omega); have d1 := hca 1 (by omega); have d2 := hca 2 (by omega); have d3 := hca 3 (by omega); have d4 := hca 4 (by omega); have d5 := hca 5 (by omega); have d6 := hca 6 (by omega)
                    clear hca
                    simp only [LoD.enc, Nat.add_zero] at d0 d1 d2 d3 d4 d5 d6
                    have hk0 : (0 : Int) ≤ (k : Int) := by omega
                    have hk1 : (k : Int) < (xlo.length : Int) := by omega
                    have HIW : Hid (wr.heap[w.heap.size + 1 + 1]? = some (.cells #[.func (.func 8) #[] #[.pointer (some ⟨w.heap.size, 0, none⟩)]] 42 (0, 0))) := (ho.out.block _ (by omega) (by omega)).trans HIB3.out
                    have HPW : Hid (PBox wr w.heap.size X) := HPB3.out.keep (ho.out.block w.heap.size (by omega) (by omega))
                    have HOU := ho
                    obtain ⟨wo, rfl⟩ : ∃ wo : World, wo = wr := ⟨_, rfl⟩
                    go_wp2_with fail
                    generalize hW4 : World.alloc wo _ = W4
                    have HB4 : Hid (Below wo.heap.size wo W4) := by rw [← hW4]; exact (Below.refl _ _).alloc (Nat.le_refl _) _
                    clear hW4
                    have HLV4 : Hid (Sl W4 7 LoD.enc X.lv X.locs) := HLV.out.keep (HBW.out.trans (HB4.out.mono (by omega)))
                    have hok := check_loc X w.heap.size (w.heap.size + 1 + 1 + 1) (w.heap.size + 1 + 1) _ ⟨.slice a4 yl.length q4, .slice a5 ys.length q5, y2, y3, y4, y5, y6, yl, ys⟩ w W4 HYR.out (HBW.out.trans (HB4.out.mono (by omega))) ⟨HPW.out.keep (HB4.out.block _ (by omega)), HLV4.out, (HB4.out.block _ (by omega)).trans hkb.out, (HB4.out.block _ (by omega)).trans HIW.out⟩ (by omega) (by omega) (by omega) HLV.out
                    rw [HXL.out, Bool.and_assoc, ← HAS.out] at hok
                    refine hok.mono ?_
                    rintro e w5 ⟨rfl, hk5, ho5⟩
                    have HK5 := Lib.hid hk5
                    have HO5 : Hid (OutsP (fun q => q = w.heap.size + 1 + 1 + 1) w3 w5) := (ho.out.trans (OutsP.of_below (S := fun q => q = w.heap.size + 1 + 1 + 1) HB4.out) (fun x hx => .inl hx)).trans ho5 (fun x hx => .inl hx)
                    clear hk5 ho5 hok
                    go_wp2
                    go_roundw
                    case rel => exact ⟨k + 1, by omega, by go_num, HK5, HO5⟩
                    case measure => simp [intOf]; omega
                  · obtain rfl : k = xlo.length := by omega
                    rw [List.take_length] at hkb
                    have HFT : Hid ((b1 && xlo.all (loB xlo.length)) = fitB ⟨xn, xp, .slice fa xfr.length fc, .slice ia xin.length ic, .slice la xlo.length lc, x5, x6, x7, x8, x9, xfr, xin, xlo⟩ more) := by
                      unfold Hid fitB
                      rw [← HB11.out, HFL.out]
                      simp only [Bool.and_assoc]
                    rw [HFT.out] at hkb
                    obtain ⟨w6, rfl⟩ : ∃ wo : World, wo = wr := ⟨_, rfl⟩
                    have HBW : Hid (Below w.heap.size w w6) := HB3.out.trans (ho.out.below (by omega) (fun q hq => by omega))
                    have hzb := (ho.out.block (w.heap.size + 1) (by omega) (by omega)).trans HZB3.out
                    have HZB6 := Lib.hid hzb
                    have HPB6 : Hid (PBox w6 w.heap.size X) := HPB3.out.keep (ho.out.block w.heap.size (by omega) (by omega))
                    clear ho HIB3 HKB3 HZB3 HPB3
                    have hokr : w.heap.size + 1 + 1 + 1 < w6.heap.size := by omega
                    have hbw6 : w.heap.size < w6.heap.size := by omega
                    cases hfit : fitB ⟨xn, xp, .slice fa xfr.length fc, .slice ia xin.length ic, .slice la xlo.length lc, x5, x6, x7, x8, x9, xfr, xin, xlo⟩ more with
                    | false =>
                      · have HFIT := Lib.hid hfit
                        rw [hfit] at hkb
                        have kb6 : w6.cell? ⟨w.heap.size + 1 + 1 + 1, 0, none⟩ = some (.bool false) := (cell_of_row w6 _ 0 _ _ _ hkb.out).trans rfl
                        clear hfit
                        have z0 : w6.cell? ⟨w.heap.size + 1, 0, none⟩ = some (.string ByteArray.empty) := by rw [cell_of_row w6 (w.heap.size + 1) 0 _ _ _ hzb]; rfl
                        have f0 := frozen_of_row w6 (w.heap.size + 1) 0 _ _ hzb
                        have z1 : w6.cell? ⟨w.heap.size + 1, 1, none⟩ = some (.int .i64 0) := by rw [cell_of_row w6 (w.heap.size + 1) 1 _ _ _ hzb]; rfl
                        have f1 := frozen_of_row w6 (w.heap.size + 1) 1 _ _ hzb
                        have z2 : w6.cell? ⟨w.heap.size + 1, 2, none⟩ = some (.slice none 0 0) := by rw [cell_of_row w6 (w.heap.size + 1) 2 _ _ _ hzb]; rfl
                        have f2 := frozen_of_row w6 (w.heap.size + 1) 2 _ _ hzb
                        have z3 : w6.cell? ⟨w.heap.size + 1, 3, none⟩ = some (.slice none 0 0) := by rw [cell_of_row w6 (w.heap.size + 1) 3 _ _ _ hzb]; rfl
                        have f3 := frozen_of_row w6 (w.heap.size + 1) 3 _ _ hzb
                        have z4 : w6.cell? ⟨w.heap.size + 1, 4, none⟩ = some (.slice none 0 0) := by rw [cell_of_row w6 (w.heap.size + 1) 4 _ _ _ hzb]; rfl
                        have f4 := frozen_of_row w6 (w.heap.size + 1) 4 _ _ hzb
                        have z5 : w6.cell? ⟨w.heap.size + 1, 5, none⟩ = some (.int .i64 0) := by rw [cell_of_row w6 (w.heap.size + 1) 5 _ _ _ hzb]; rfl
                        have f5 := frozen_of_row w6 (w.heap.size + 1) 5 _ _ hzb
                        have z6 : w6.cell? ⟨w.heap.size + 1, 6, none⟩ = some (.int .i64 0) := by rw [cell_of_row w6 (w.heap.size + 1) 6 _ _ _ hzb]; rfl
                        have f6 := frozen_of_row w6 (w.heap.size + 1) 6 _ _ hzb
                        have z7 : w6.cell? ⟨w.heap.size + 1, 7, none⟩ = some (.int .i64 0) := by rw [cell_of_row w6 (w.heap.size + 1) 7 _ _ _ hzb]; rfl
                        have f7 := frozen_of_row w6 (w.heap.size + 1) 7 _ _ hzb
                        have z8 : w6.cell? ⟨w.heap.size + 1, 8, none⟩ = some (.int .i64 0) := by rw [cell_of_row w6 (w.heap.size + 1) 8 _ _ _ hzb]; rfl
                        have f8 := frozen_of_row w6 (w.heap.size + 1) 8 _ _ hzb
                        have z9 : w6.cell? ⟨w.heap.size + 1, 9, none⟩ = some (.int .i64 0) := by rw [cell_of_row w6 (w.heap.size + 1) 9 _ _ _ hzb]; rfl
                        have f9 := frozen_of_row w6 (w.heap.size + 1) 9 _ _ hzb
                        clear hzb
                        go_wp2_with (first | (with_reducible refine wpList_zero26 (o := ⟨some 61, _, _, _, _, _⟩) rfl rfl ?_) | (with_reducible refine wpList_store26z (o := ⟨none, Op.store 26 _ _, _, _, _, _⟩) rfl _ _ rfl (w.heap.size + 1) rfl rfl HZB6.out ?_; intro WF hZF hOF; have HZF := Lib.hid hZF; have HOF := Lib.hid hOF; clear hZF hOF))
                        clear z0 z1 z2 z3 z4 z5 z6 z7 z8 z9 f0 f1 f2 f3 f4 f5 f6 f7 f8 f9
                        have c0 : WF.cell? ⟨w.heap.size + 1, 0, none⟩ = some (.string ByteArray.empty) := by rw [cell_of_row WF (w.heap.size + 1) 0 _ _ _ HZF.out]; rfl
                        have c1 : WF.cell? ⟨w.heap.size + 1, 1, none⟩ = some (.int .i64 0) := by rw [cell_of_row WF (w.heap.size + 1) 1 _ _ _ HZF.out]; rfl
                        have c2 : WF.cell? ⟨w.heap.size + 1, 2, none⟩ = some (.slice none 0 0) := by rw [cell_of_row WF (w.heap.size + 1) 2 _ _ _ HZF.out]; rfl
                        have c3 : WF.cell? ⟨w.heap.size + 1, 3, none⟩ = some (.slice none 0 0) := by rw [cell_of_row WF (w.heap.size + 1) 3 _ _ _ HZF.out]; rfl
                        have c4 : WF.cell? ⟨w.heap.size + 1, 4, none⟩ = some (.slice none 0 0) := by rw [cell_of_row WF (w.heap.size + 1) 4 _ _ _ HZF.out]; rfl
                        have c5 : WF.cell? ⟨w.heap.size + 1, 5, none⟩ = some (.int .i64 0) := by rw [cell_of_row WF (w.heap.size + 1) 5 _ _ _ HZF.out]; rfl
                        have c6 : WF.cell? ⟨w.heap.size + 1, 6, none⟩ = some (.int .i64 0) := by rw [cell_of_row WF (w.heap.size + 1) 6 _ _ _ HZF.out]; rfl
                        have c7 : WF.cell? ⟨w.heap.size + 1, 7, none⟩ = some (.int .i64 0) := by rw [cell_of_row WF (w.heap.size + 1) 7 _ _ _ HZF.out]; rfl
                        have c8 : WF.cell? ⟨w.heap.size + 1, 8, none⟩ = some (.int .i64 0) := by rw [cell_of_row WF (w.heap.size + 1) 8 _ _ _ HZF.out]; rfl
                        have c9 : WF.cell? ⟨w.heap.size + 1, 9, none⟩ = some (.int .i64 0) := by rw [cell_of_row WF (w.heap.size + 1) 9 _ _ _ HZF.out]; rfl
                        have HBF : Hid (Below w.heap.size w WF) := HBW.out.trans (HOF.out.below (by omega) (fun k h => by omega))
                        refine bodyPost_ret (v := .tuple #[.agg #[.string ByteArray.empty, .int .i64 0, .slice none 0 0, .slice none 0 0, .slice none 0 0, .int .i64 0, .int .i64 0, .int .i64 0, .int .i64 0, .int .i64 0], .slice none 0 0, .int .i64 16]) (by simp [results, Try.results4, go_sem, *]) rfl ?_
                        rw [← HPP.out]
                        exact ⟨fun h => (by rw [HFIT.out] at h; exact absurd h (by decide)), fun _ => ⟨rfl, HBF.out⟩⟩
                    | true =>
                      · have HFIT := Lib.hid hfit
                        rw [hfit] at hkb
                        have kb6 : w6.cell? ⟨w.heap.size + 1 + 1 + 1, 0, none⟩ = some (.bool true) := (cell_of_row w6 _ 0 _ _ _ hkb.out).trans rfl
                        clear hfit hzb
                        have pc4 : w6.cell? ⟨w.heap.size, 4, none⟩ = some (.slice la xlo.length lc) := by
                          have h := HPB6.out.c4
                          rw [HXE.out] at h
                          exact h
                        have hin5 : inF xlo.length x5 = true := by
                          have h := HFIT.out
                          unfold fitB at h
                          simp only [Bool.and_eq_true] at h
                          exact h.1.1.1
                        have HI5 := Lib.hid hin5
                        have h1n : 1 ≤ xlo.length := by obtain ⟨h1, h2⟩ := inF_iff.1 hin5; omega
                        clear hin5
                        go_wp2_with fail
                        refine (repeat_any xlo.length w6.heap.size h1n hxz _ ((cell_of_row _ _ 0 _ _ _ (heap_new' _ _)).trans rfl) (by simp)).mono ?_
                        rintro e w7 ⟨g, rfl, hg7, hb7⟩
                        have HB7 : Hid (Below w6.heap.size w6 w7) := ((Below.refl _ _).alloc (Nat.le_refl _) _).trans (hb7.mono (by simp))
                        have HG7 : Hid (Ow w7 w6.heap.size 3 1 iEnc (.slice (some ⟨g, 0, none⟩) xlo.length xlo.length) (List.replicate xlo.length (-1))) := hg7.base (by simp)
                        clear hg7 hb7
                        have hz7 := HB7.out.size
                        have hbw7 : w.heap.size < w7.heap.size := by omega
                        have hx1 : w.heap.size < w7.heap.size + 1 := by omega
                        have hx2 : w.heap.size < w7.heap.size + 1 + 1 := by omega
                        have HPB7 : Hid (PBox w7 w.heap.size X) := HPB6.out.keep (HB7.out.block _ hbw6)
                        have pc5 : w7.cell? ⟨w.heap.size, 5, none⟩ = some (.int .i64 x5) := by
                          have h := (cell_of_row w7 w.heap.size 5 _ _ _ HPB7.out)
                          rw [HXE.out] at h
                          exact h
                        go_wp2_with (at_builtin; go_must (refine wpList_app elt27 rfl _ _ rfl w7.heap.size iEnc (.slice (some ⟨w7.heap.size + 1 + 1 + 1, 0, none⟩) 1 1) [x5] rfl (own_ints1 _ _ _ _ (by simp) (by simp; omega)) (.slice am more.length cm) more rfl (HMS.out.keep (HBW.out.trans ((HB7.out.mono (by omega)).trans (((((Below.refl w7.heap.size w7).alloc (Nat.le_refl _) _).alloc (by simp) _).alloc (by simp; omega) _).alloc (by simp; omega) _ |>.mono (by omega))))) HMN.out (fun x _ j _ => rfl) (by simp; omega) (by simp; omega) ?c5))
                        case c5 =>
                          intro v8 w8 h1 h2
                          obtain ⟨k0, k1, k2, kb⟩ := four_grown w7 w8 _ _ _ _ _ rfl h2
                          have HB8 := Lib.hid kb
                          have HL8 : Hid (Sl w8 1 iEnc v8 (x5 :: more)) := sl_of_ow h1
                          have HNE8 : Hid (∀ q, v8.ownBlock = some q → ¬ (q = w7.heap.size + 1 ∨ q = g)) := fun q hq h => by
                            rcases h with rfl | rfl
                            · exact ow_neE h1 k1 (by decide) hq
                            · have := (h1.lt _ hq).1
                              have h5 : q < w7.heap.size := (HG7.out.lt q rfl).2
                              omega
                          have HMB8 := Lib.hid k2
                          have HM8 : Hid (MB xlo.length w8 w8 w6.heap.size w7.heap.size (w7.heap.size + 1) g (.slice none 0 0) (List.replicate xlo.length (-1), [])) :=
                            ⟨⟨k0, k1, HG7.out.keep HB8.out, ow_nil _ _ _ _ _, fun k hk => by simp [Value.ownBlock], by omega⟩, ⟨by simp, by simp, fun x hx => (by simp at hx), fun x hx => (by obtain ⟨_, rfl⟩ := List.mem_replicate.1 hx; omega)⟩, OutsP.refl _ _, fun q hq => by simp [Value.ownBlock] at hq⟩
                          have HPB8 : Hid (PBox w8 w.heap.size X) := HPB7.out.keep (HB8.out.block _ hbw7)
                          have hz8 := HB8.out.size
                          have hmb8 : w7.heap.size + 1 + 1 < w8.heap.size := lt_of_block HMB8.out
                          have hgz : w6.heap.size ≤ g ∧ g < w7.heap.size := HG7.out.lt g rfl
                          clear h1 h2 k0 k1 k2 kb
                          obtain ⟨LM, HLM⟩ : ∃ LM, Hid (LM = x5 :: more) := ⟨_, rfl⟩
                          have HIM : Hid (LM.all (inF xlo.length) = true) := by
                            have h := HFIT.out
                            unfold fitB at h
                            simp only [Bool.and_eq_true] at h
                            unfold Hid
                            rw [HLM.out]
                            simp only [List.all_cons, Bool.and_eq_true]
                            exact ⟨HI5.out, h.1.2⟩
                          have HIL : Hid (xlo.all (loB xlo.length) = true) := by
                            have h := HFIT.out
                            unfold fitB at h
                            simp only [Bool.and_eq_true] at h
                            exact h.2
                          have HI6 : Hid (inF xlo.length x6 = true) := by
                            have h := HFIT.out
                            unfold fitB at h
                            simp only [Bool.and_eq_true] at h
                            exact h.1.1.2
                          rw [← HLM.out] at HL8
                          obtain ⟨a8, c8, rfl, m8, HLC8⟩ := sl_open HL8.out
                          obtain ⟨NX, HNX⟩ : ∃ NX, Hid (NX = nextF ⟨xn, xp, .slice fa xfr.length fc, .slice ia xin.length ic, .slice la xlo.length lc, x5, x6, x7, x8, x9, xfr, xin, xlo⟩) := ⟨_, rfl⟩
                          obtain ⟨T, HT⟩ : ∃ T, Hid (goA NX (xlo.length + 1) LM (0, (List.replicate xlo.length (-1), [])) = T) := ⟨_, rfl⟩
                          have HBW8 : Hid (Below w.heap.size w w8) := HBW.out.trans ((HB7.out.mono (by omega)).trans (HB8.out.mono (by omega)))
                          go_wp2_with fail
                          as_aux_lemma =>
                            go_loopw [74, 17] (fun ii dd wr => ∃ (k d : Nat) (s : St) (ov : Value), ii = .int .i64 k ∧ dd = .int .i64 d ∧ k ≤ LM.length ∧ Hid (goA NX (xlo.length + 1) (LM.drop k) (d, s) = T) ∧ Hid (MB xlo.length w8 wr w6.heap.size w7.heap.size (w7.heap.size + 1) g ov s)) (fun ii _ _ => LM.length - (intOf ii).toNat)
                            case atStart => exact ⟨0, 0, _, _, rfl, rfl, Nat.zero_le _, HT, HM8⟩
                            case round =>
                              as_aux_lemma =>
                                obtain ⟨k, d, s, ov, rfl, rfl, hk, HTK, hm⟩ := hrel
                                have hszr := hm.out.out.size
                                have hmb := (hm.out.out.block (w7.heap.size + 1 + 1) hmb8 (by omega)).trans HMB8.out
                                have mc0 : wr.cell? ⟨w7.heap.size + 1 + 1, 0, none⟩ = some (.func (.func 12) #[] #[.pointer (some ⟨w7.heap.size, 0, none⟩), .pointer (some ⟨w7.heap.size + 1, 0, none⟩)]) := (cell_of_row wr _ 0 _ _ _ hmb).trans rfl
                                clear hmb
                                by_cases hlt : k < LM.length
                                · obtain ⟨bl, ol, rfl, hbl, hcl⟩ := HLC8.out (by omega)
                                  have e0 := (World.cell?_of_block (a := ⟨bl, ol + k * 1 + 0, none⟩) (hm.out.out.block bl hbl (HNE8.out bl rfl))).trans (hcl k hlt 0 (by omega))
                                  simp only [iEnc, Nat.mul_one, Nat.add_zero] at e0
                                  have hin := List.all_eq_true.1 HIM.out (LM.getD k default) (mem_getD hlt)
                                  have HDR := Lib.hid (drop_getD LM k hlt)
                                  clear hcl
                                  generalize LM.getD k default = y at *
                                  have HIN := Lib.hid hin
                                  clear hin
                                  have hblr : bl < wr.heap.size := by omega
                                  obtain ⟨wo, rfl⟩ : ∃ wo : World, wo = wr := ⟨_, rfl⟩
                                  have hk0 : (0 : Int) ≤ (k : Int) := by omega
                                  have hk1 : (k : Int) < (LM.length : Int) := by omega
                                  have hslz : s.2.length ≤ 1048576 := by have := hm.out.st.le; omega
                                  go_wp2_with fail
                                  refine (bmeet_any y s w6.heap.size w7.heap.size (w7.heap.size + 1) _ ov wo hm.out.gb (by rw [hm.out.st.len]; exact HIN.out) hslz (by omega)).mono ?_
                                  rintro e w9 hme
                                  obtain ⟨rfl, ov9, hm9⟩ := hm.out.meetB HIN.out hme
                                  have HM9 := Lib.hid hm9
                                  obtain ⟨R, HR⟩ : ∃ R, Hid (scan NX (xlo.length + 1) d (mt y s) = R) := ⟨_, rfl⟩
                                  have HTR : Hid (goA NX (xlo.length + 1) (LM.drop (k + 1)) R = T) := by
                                    have h := HTK.out
                                    rw [HDR.out] at h
                                    rw [← HR.out]
                                    exact h
                                  clear hme hm9 HTK hm
                                  generalize mt y s = s1 at *
                                  go_wp2_with fail
                                  as_aux_lemma =>
                                    go_loopw [17] (fun dd wr => ∃ (f d : Nat) (s : St) (ov : Value), dd = .int .i64 d ∧ xlo.length + 1 ≤ f + d ∧ Hid (scan NX f d s = R) ∧ Hid (MB xlo.length w8 wr w6.heap.size w7.heap.size (w7.heap.size + 1) g ov s)) (fun dd _ => xlo.length - (intOf dd).toNat)
                                    case atStart => exact ⟨xlo.length + 1, d, s1, ov9, rfl, by omega, HR, HM9⟩
                                    case round =>
                                      as_aux_lemma =>
                                        clear HR HM9 hszr mc0 hblr hslz e0
                                        obtain ⟨f, d, s, ov, rfl, hfd, HSC, hm⟩ := hrel
                                        have hszr := hm.out.out.size
                                        have HBR : Hid (Below w.heap.size w wr) := HBW8.out.trans (hm.out.out.below (by have := HBW8.out.size; omega) (fun q hq => by omega))
                                        have hbwr : w.heap.size < wr.heap.size := by omega
                                        have hobr : w7.heap.size + 1 < wr.heap.size := by omega
                                        have hmbr : w7.heap.size + 1 + 1 < wr.heap.size := by omega
                                        have HMBR : Hid (wr.heap[w7.heap.size + 1 + 1]? = some (.cells #[.func (.func 12) #[] #[.pointer (some ⟨w7.heap.size, 0, none⟩), .pointer (some ⟨w7.heap.size + 1, 0, none⟩)]] 47 (0, 0))) := (hm.out.out.block (w7.heap.size + 1 + 1) hmb8 (by omega)).trans HMB8.out
                                        have hpbr := HPB8.out.keep (hm.out.out.block w.heap.size (by omega) (by omega))
                                        have pc4 : wr.cell? ⟨w.heap.size, 4, none⟩ = some (.slice la xlo.length lc) := by
                                          have h := hpbr.c4
                                          rw [HXE.out] at h
                                          exact h
                                        clear hpbr
                                        have o0 : wr.cell? ⟨w7.heap.size + 1, 0, none⟩ = some ov := (cell_of_row wr _ 0 _ _ _ hm.out.gb.b).trans rfl
                                        have hsle := hm.out.st.le
                                        have HOV := Lib.hid (sl_of_ow hm.out.gb.o)
                                        obtain ⟨ao, co, rfl, mo, HOO⟩ := sl_open HOV.out
                                        by_cases hds : d < s.2.length
                                        · obtain ⟨f, rfl⟩ : ∃ f', f = f' + 1 := ⟨f - 1, by omega⟩
                                          have HSC2 := Lib.hid (HSC.out)
                                          rw [scan_go NX f d s hds] at HSC2
                                          obtain ⟨bo, oo, rfl, hbo, hco⟩ := HOO.out (by omega)
                                          have p0 := hco d hds 0 (by omega)
                                          simp only [iEnc, Nat.mul_one, Nat.add_zero] at p0
                                          have hpin := hm.out.st.ord (s.2.getD d default) (mem_getD hds)
                                          clear hco HSC
                                          generalize s.2.getD d default = pp at *
                                          obtain ⟨hp0, hp1⟩ := inF_iff.1 hpin
                                          obtain ⟨p, rfl⟩ : ∃ q : Nat, pp = (q : Int) := ⟨pp.toNat, by omega⟩
                                          have hpn : p < xlo.length := by omega
                                          obtain ⟨ba, oa, rfl, hba, hca⟩ := HL.out (by omega)
                                          have hba2 : ba < wr.heap.size := by omega
                                          have hca := fun j hj => (HBR.out.cell (p := ⟨ba, oa + p * 7 + j, none⟩) hba).trans (hca p hpn j hj)
                                          have hyo := HYL.out (xlo.getD p default) (mem_getD hpn)
                                          have hlo : loB xlo.length (xlo.getD p default) = true := List.all_eq_true.1 HIL.out _ (mem_getD hpn)
                                          have hnx : NX (p : Int) = tosL (lsOf (xlo.getD p default)) := by rw [HNX.out]; rfl
                                          rw [hnx] at HSC2
                                          clear hnx
                                          generalize xlo.getD p default = y at *
                                          obtain ⟨yo, ye, y2, y3, y4, y5, y6, yl, ys⟩ := y
                                          obtain ⟨a4, q4, ho1, -, -⟩ := sl_open hyo.ov
                                          obtain ⟨a5, q5, ho2, -, -⟩ := sl_open hyo.ev
                                          simp only at ho1 ho2
                                          subst ho1; subst ho2
                                          have HYR := Lib.hid (lo_rd hyo)
                                          have HLO := Lib.hid hlo
                                          clear hyo hlo
                                          have d0 := hca 0 (by omega); have d1 := hca 1 (by omega); have d2 := hca 2 (by omega); have d3 := hca 3 (by omega); have d4 := hca 4 (by omega); have d5 := hca 5 (by omega); have d6 := hca 6 (by omega)
                                          clear hca
                                          simp only [LoD.enc, Nat.add_zero] at d0 d1 d2 d3 d4 d5 d6
                                          have hdk0 : (0 : Int) ≤ (d : Int) := by omega
                                          have hdk1 : (d : Int) < (s.2.length : Int) := by omega
                                          have hpp1 : (p : Int) < (xlo.length : Int) := by omega
                                          obtain ⟨wo2, rfl⟩ : ∃ wo : World, wo = wr := ⟨_, rfl⟩
                                          obtain ⟨ov5, HOV5⟩ : ∃ v, Hid (v = Value.slice (some ⟨bo, oo, none⟩) s.2.length co) := ⟨_, rfl⟩
                                          have HM5 : Hid (MB xlo.length w8 wo2 w6.heap.size w7.heap.size (w7.heap.size + 1) g ov5 s) := by rw [HOV5.out]; exact hm
                                          have HML := Lib.hid (fun W (hW : Below wo2.heap.size wo2 W) => meet_loc xlo.length w6.heap.size w7.heap.size (w7.heap.size + 1) (w7.heap.size + 1 + 1) (.slice (some ⟨g, 0, none⟩) xlo.length xlo.length) ov5 s ⟨.slice a4 yl.length q4, .slice a5 ys.length q5, y2, y3, y4, y5, y6, yl, ys⟩ w W HYR.out (HBR.out.trans (hW.mono (by omega))) (HM5.out.keep hW).gb HM5.out.st hxz HLO.out ((hW.block _ hmbr).trans HMBR.out) (by omega) (by have := hW.size; omega) (by omega) (by omega))
                                          go_wp2_with fail
                                          go_still_tail 10, (by kernel_rfl)
                                          go_wp2_with fail
                                          refine (HML.out wo2.drew (below_drew wo2)).mono ?_
                                          rintro e w10 hml
                                          obtain ⟨rfl, ov10, hm10⟩ := (HM5.out.keep (below_drew wo2)).meetL (tos_in HLO.out) hml
                                          have HM10 := Lib.hid hm10
                                          clear hml hm10
                                          go_wp2
                                          go_roundw
                                          case rel => exact ⟨f, d + 1, _, ov10, by go_num, by omega, HSC2, HM10⟩
                                          case measure => simp [intOf]; omega
                                        · have hRR := HSC.out
                                          rw [scan_stop NX f d s hds] at hRR
                                          have HTR2 : Hid (goA NX (xlo.length + 1) (LM.drop (k + 1)) (d, s) = T) := by rw [hRR]; exact HTR
                                          clear hRR HSC
                                          go_wp2
                                          go_roundw
                                          case rel => exact ⟨k + 1, d, s, _, by go_num, rfl, by omega, HTR2, hm⟩
                                          case measure => simp [intOf]; omega
                                · obtain rfl : k = LM.length := by omega
                                  have hpb := HPB8.out.keep (hm.out.out.block w.heap.size (by omega) (by omega))
                                  have HPBr : Hid (PBox wr w.heap.size X) := hpb
                                  have pc6 : wr.cell? ⟨w.heap.size, 6, none⟩ = some (.int .i64 x6) := by
                                    have h := (cell_of_row wr w.heap.size 6 _ _ _ hpb)
                                    rw [HXE.out] at h
                                    exact h
                                  clear hpb
                                  have HTT : Hid (T = (d, s)) := by
                                    have h := HTK.out
                                    rw [List.drop_length] at h
                                    exact h.symm
                                  have hbwr : w.heap.size < wr.heap.size := by omega
                                  obtain ⟨wo, rfl⟩ : ∃ wo : World, wo = wr := ⟨_, rfl⟩
                                  have hslz : s.2.length ≤ 1048576 := by have := hm.out.st.le; omega
                                  go_wp2_with fail
                                  refine (bmeet_any x6 s w6.heap.size w7.heap.size (w7.heap.size + 1) _ ov wo hm.out.gb (by rw [hm.out.st.len]; exact HI6.out) hslz (by omega)).mono ?_
                                  rintro e w9 hme
                                  obtain ⟨rfl, ov9, hm9⟩ := hm.out.meetB HI6.out hme
                                  have HM9 := Lib.hid hm9
                                  have HSW : Hid (mt x6 s = stW ⟨xn, xp, .slice fa xfr.length fc, .slice ia xin.length ic, .slice la xlo.length lc, x5, x6, x7, x8, x9, xfr, xin, xlo⟩ more) := by
                                    unfold Hid stW
                                    rw [← HNX.out, ← HLM.out]
                                    show mt x6 s = mt x6 (goA NX (xlo.length + 1) LM (0, (List.replicate xlo.length (-1), []))).2
                                    rw [HT.out, HTT.out]
                                  clear hme hm9
                                  generalize mt x6 s = sF at *
                                  clear hslz pc6 mc0 HTK
                                  have HMW9 : Hid (Below w.heap.size w w9) := HBW8.out.trans (HM9.out.out.below (by have := HBW8.out.size; omega) (fun q hq => by omega))
                                  have hz9 := HM9.out.out.size
                                  clear hm
                                  obtain ⟨p5, hp5⟩ : ∃ p : Nat, x5 = (p : Int) := ⟨x5.toNat, by have := (inF_iff.1 HI5.out).1; omega⟩
                                  obtain ⟨p6, hp6⟩ : ∃ p : Nat, x6 = (p : Int) := ⟨x6.toNat, by have := (inF_iff.1 HI6.out).1; omega⟩
                                  have hp5n : p5 < xlo.length := by have := (inF_iff.1 HI5.out).2; omega
                                  have hp6n : p6 < xlo.length := by have := (inF_iff.1 HI6.out).2; omega
                                  have hpb9 : w9.heap[w.heap.size]? = some (.cells #[.string xn, .int .i64 xp, .slice fa xfr.length fc, .slice ia xin.length ic, .slice la xlo.length lc, .int .i64 (p5 : Int), .int .i64 (p6 : Int), .int .i64 x7, .int .i64 x8, .int .i64 x9] 26 (0, 0)) := by
                                    have h := HPB8.out.keep (HM9.out.out.block w.heap.size (by omega) (by omega))
                                    rw [HXE.out] at h
                                    rw [← hp5, ← hp6]
                                    exact h
                                  have HPB9 := Lib.hid hpb9
                                  have s0 : w9.cell? ⟨w.heap.size, 0, none⟩ = some (.string xn) := (cell_of_row w9 w.heap.size 0 _ _ _ hpb9).trans rfl
                                  have s1 : w9.cell? ⟨w.heap.size, 1, none⟩ = some (.int .i64 xp) := (cell_of_row w9 w.heap.size 1 _ _ _ hpb9).trans rfl
                                  have s2 : w9.cell? ⟨w.heap.size, 2, none⟩ = some (.slice fa xfr.length fc) := (cell_of_row w9 w.heap.size 2 _ _ _ hpb9).trans rfl
                                  have s3 : w9.cell? ⟨w.heap.size, 3, none⟩ = some (.slice ia xin.length ic) := (cell_of_row w9 w.heap.size 3 _ _ _ hpb9).trans rfl
                                  have s4 : w9.cell? ⟨w.heap.size, 4, none⟩ = some (.slice la xlo.length lc) := (cell_of_row w9 w.heap.size 4 _ _ _ hpb9).trans rfl
                                  have s5 : w9.cell? ⟨w.heap.size, 5, none⟩ = some (.int .i64 (p5 : Int)) := (cell_of_row w9 w.heap.size 5 _ _ _ hpb9).trans rfl
                                  have s6 : w9.cell? ⟨w.heap.size, 6, none⟩ = some (.int .i64 (p6 : Int)) := (cell_of_row w9 w.heap.size 6 _ _ _ hpb9).trans rfl
                                  have s7 : w9.cell? ⟨w.heap.size, 7, none⟩ = some (.int .i64 x7) := (cell_of_row w9 w.heap.size 7 _ _ _ hpb9).trans rfl
                                  have s8 : w9.cell? ⟨w.heap.size, 8, none⟩ = some (.int .i64 x8) := (cell_of_row w9 w.heap.size 8 _ _ _ hpb9).trans rfl
                                  have s9 : w9.cell? ⟨w.heap.size, 9, none⟩ = some (.int .i64 x9) := (cell_of_row w9 w.heap.size 9 _ _ _ hpb9).trans rfl
                                  clear hpb9
                                  have n0 : w9.cell? ⟨w7.heap.size, 0, none⟩ = some (.slice (some ⟨g, 0, none⟩) xlo.length xlo.length) := (cell_of_row w9 _ 0 _ _ _ HM9.out.gb.a).trans rfl
                                  have hnbz : w7.heap.size < w9.heap.size := by omega
                                  have hbz9 : w.heap.size < w9.heap.size := by omega
                                  have hg9 : g < w9.heap.size := by omega
                                  have hcn : ∀ q, q < xlo.length → w9.cell? ⟨g, q, none⟩ = some (.int .i64 (sF.1.getD q default)) := by
                                    intro q hq
                                    obtain ⟨an, cn2, e, -, HNN⟩ := sl_open (sl_of_ow HM9.out.gb.n)
                                    obtain ⟨b2, o2, e2, -, hc⟩ := HNN.out (by rw [HM9.out.st.len]; omega)
                                    rw [e2] at e
                                    injection e with e1 _ _
                                    injection e1 with e1
                                    injection e1 with e1 e3 _
                                    have h := hc q (by rw [HM9.out.st.len]; exact hq) 0 (by omega)
                                    rw [← e1, ← e3] at h
                                    simpa [iEnc] using h
                                  have n5 := hcn p5 hp5n
                                  have n6 := hcn p6 hp6n
                                  clear hcn
                                  obtain ⟨N5, HN5⟩ : ∃ v, Hid (sF.1.getD p5 default = v) := ⟨_, rfl⟩
                                  obtain ⟨N6, HN6⟩ : ∃ v, Hid (sF.1.getD p6 default = v) := ⟨_, rfl⟩
                                  rw [HN5.out] at n5
                                  rw [HN6.out] at n6
                                  have hp5l : (p5 : Int) < (xlo.length : Int) := by omega
                                  have hp6l : (p6 : Int) < (xlo.length : Int) := by omega
                                  have HP5 := Lib.hid hp5; have HP6 := Lib.hid hp6
                                  clear hp5 hp6
                                  go_wp2_with fail
                                  go_region
                                  generalize hWA : World.drew (World.alloc w9 _) = WA
                                  have HBA : Hid (Below w9.heap.size w9 WA) := by rw [← hWA]; exact ((Below.refl _ _).alloc (Nat.le_refl _) _).drew
                                  have HBO : Hid (WA.heap[w9.heap.size]? = some (.cells #[.string xn, .int .i64 xp, .slice fa xfr.length fc, .slice ia xin.length ic, .slice none 0 0, .int .i64 N5, .int .i64 N6, .int .i64 x7, .int .i64 x8, .int .i64 x9] 26 (0, 0))) := by rw [← hWA]; exact heap_new_drew _ _
                                  have hzA : w9.heap.size < WA.heap.size := by rw [← hWA, size_new_drew]; omega
                                  clear hWA s0 s1 s2 s3 s4 s5 s6 s7 s8 s9 n0 n5 n6
                                  obtain ⟨bq, hbq⟩ : ∃ bq, bq = w9.heap.size := ⟨_, rfl⟩
                                  rw [← hbq] at HBO hzA ⊢
                                  have hbqg : w9.heap.size ≤ bq := by omega
                                  have HBQ := Lib.hid hbq
                                  clear hbq
                                  have hobA : w7.heap.size + 1 < WA.heap.size := by omega
                                  have HMA := Lib.hid (HM9.out.keep HBA.out)
                                  have o0 : WA.cell? ⟨w7.heap.size + 1, 0, none⟩ = some ov9 := (cell_of_row WA _ 0 _ _ _ HMA.out.gb.b).trans rfl
                                  have HOV := Lib.hid (sl_of_ow HMA.out.gb.o)
                                  obtain ⟨ao, co, hov, mo, HOO⟩ := sl_open HOV.out
                                  rw [hov] at o0
                                  have hov9 : ∀ q, ov9.ownBlock = some q → q < w9.heap.size := fun q hq => (HM9.out.gb.o.lt q hq).2
                                  have HOL := Lib.hid hov9
                                  clear hov9
                                  have hsfl : sF.2.length ≤ xlo.length := HMA.out.st.le
                                  go_wp2_with fail
                                  as_aux_lemma =>
                                    go_loopw [119] (fun ii wr => ∃ (i : Nat) (lv : Value) (D : List LoD), ii = .int .i64 i ∧ i ≤ sF.2.length ∧ Hid (wr.heap[bq]? = some (.cells #[.string xn, .int .i64 xp, .slice fa xfr.length fc, .slice ia xin.length ic, lv, .int .i64 N5, .int .i64 N6, .int .i64 x7, .int .i64 x8, .int .i64 x9] 26 (0, 0))) ∧ Hid (Ow wr WA.heap.size 36 7 LoD.enc lv D) ∧ Hid (D.length = i) ∧ Hid (∀ q, q < i → LoA (D.getD q default) (renL sF.1 (xlo.getD (sF.2.getD q default).toNat default))) ∧ Hid (∀ t ∈ D, LoW w WA.heap.size wr t) ∧ Hid (OutsP (fun k => k = bq) WA wr)) (fun ii _ => sF.2.length - (intOf ii).toNat)
                                    case atStart => exact ⟨0, _, [], rfl, Nat.zero_le _, HBO, ow_nil _ _ _ _ _, rfl, fun q h => absurd h (by omega), fun t ht => by simp at ht, OutsP.refl _ _⟩
                                    case round =>
                                      as_aux_lemma =>
                                        clear o0
                                        obtain ⟨i, lv, D, rfl, hi, hbo, hol, hdl, hal, hrd, hou⟩ := hrel
                                        have hszr := hou.out.size
                                        have HBr : Hid (Below w9.heap.size w9 wr) := HBA.out.trans (hou.out.below (by omega) (fun q hq => by omega))
                                        have HBWr : Hid (Below w.heap.size w wr) := HMW9.out.trans (HBr.out.mono (by omega))
                                        have HMr := Lib.hid (HM9.out.keep HBr.out)
                                        have hnbr : w7.heap.size < wr.heap.size := by omega
                                        by_cases hltF : i < sF.2.length
                                        · obtain ⟨bo, oo, hao, hbo2, hco⟩ := HOO.out (by omega)
                                          subst hao
                                          have hbol : bo < w9.heap.size := HOL.out bo (by rw [hov]; rfl)
                                          have p0 := (World.cell?_of_block (a := ⟨bo, oo + i * 1 + 0, none⟩) (hou.out.block bo hbo2 (by show ¬ bo = bq; omega))).trans (hco i hltF 0 (by omega))
                                          simp only [iEnc, Nat.mul_one, Nat.add_zero] at p0
                                          have hpin := HMA.out.st.ord (sF.2.getD i default) (mem_getD hltF)
                                          have HAQ : Hid (∀ z : LoD, LoA z (renL sF.1 (xlo.getD (sF.2.getD i default).toNat default)) → ∀ q, q < i + 1 → LoA ((D ++ [z]).getD q default) (renL sF.1 (xlo.getD (sF.2.getD q default).toNat default))) := by
                                            intro z hz q hq
                                            by_cases h : q < i
                                            · have e : (D ++ [z]).getD q default = D.getD q default := by
                                                simp [List.getD_eq_getElem?_getD, List.getElem?_append, show q < D.length by rw [hdl.out]; exact h]
                                              rw [e]
                                              exact hal.out q h
                                            · obtain rfl : q = i := by omega
                                              have e : (D ++ [z]).getD q default = z := by
                                                simp [List.getD_eq_getElem?_getD, ← hdl.out]
                                              rw [e]
                                              exact hz
                                          clear hco
                                          generalize sF.2.getD i default = pp at *
                                          obtain ⟨hp0, hp1⟩ := inF_iff.1 hpin
                                          obtain ⟨p, rfl⟩ : ∃ q : Nat, pp = (q : Int) := ⟨pp.toNat, by omega⟩
                                          have hpn : p < xlo.length := by omega
                                          obtain ⟨ba, oa, hla, hba, hca⟩ := HL.out (by omega)
                                          subst hla
                                          have hba2 : ba < wr.heap.size := by omega
                                          have hca := fun j hj => (HBWr.out.cell (p := ⟨ba, oa + p * 7 + j, none⟩) hba).trans (hca p hpn j hj)
                                          have hyo := HYL.out (xlo.getD p default) (mem_getD hpn)
                                          have hlo : loB xlo.length (xlo.getD p default) = true := List.all_eq_true.1 HIL.out _ (mem_getD hpn)
                                          rw [show ((p : Int)).toNat = p by omega] at HAQ
                                          generalize xlo.getD p default = y at *
                                          obtain ⟨yo, ye, y2, y3, y4, y5, y6, yl, ys⟩ := y
                                          obtain ⟨a4, q4, ho1, -, -⟩ := sl_open hyo.ov
                                          obtain ⟨a5, q5, ho2, m5, HEV⟩ := sl_open hyo.ev
                                          simp only at ho1 ho2 HEV m5
                                          subst ho1; subst ho2
                                          have HYO := Lib.hid hyo
                                          have HLO := Lib.hid hlo
                                          have hylz : yl.length ≤ 1048576 := hyo.oz
                                          have hysz : ys.length ≤ 1048576 := hyo.ez
                                          clear hyo hlo
                                          have d0 := hca 0 (by omega); have d1 := hca 1 (by omega); have d2 := hca 2 (by omega); have d3 := hca 3 (by omega); have d4 := hca 4 (by omega); have d5 := hca 5 (by omega); have d6 := hca 6 (by omega)
                                          clear hca
                                          simp only [LoD.enc, Nat.add_zero] at d0 d1 d2 d3 d4 d5 d6
                                          have hik0 : (0 : Int) ≤ (i : Int) := by omega
                                          have hik1 : (i : Int) < (sF.2.length : Int) := by omega
                                          have hpp1 : (p : Int) < (xlo.length : Int) := by omega
                                          have hpbr := (HBr.out.block w.heap.size hbz9).trans HPB9.out
                                          have s4 : wr.cell? ⟨w.heap.size, 4, none⟩ = some (.slice (some ⟨ba, oa, none⟩) xlo.length lc) := (cell_of_row wr w.heap.size 4 _ _ _ hpbr).trans rfl
                                          clear hpbr
                                          have hbwr : w.heap.size < wr.heap.size := by omega
                                          have hbor : bo < wr.heap.size := by omega
                                          obtain ⟨wo3, rfl⟩ : ∃ wo : World, wo = wr := ⟨_, rfl⟩
                                          go_wp2_with fail
                                          generalize hWB : World.alloc wo3 _ = WB
                                          have HBB : Hid (Below wo3.heap.size wo3 WB) := by rw [← hWB]; exact (Below.refl _ _).alloc (Nat.le_refl _) _
                                          have HC23 : Hid (WB.heap[wo3.heap.size]? = some (.cells #[.slice a4 yl.length q4, .slice a5 ys.length q5, .bool y2, .bool y3, .bool y4, .bool y5, .bool y6] 36 (0, 0))) := by rw [← hWB]; exact heap_new' _ _
                                          have hzB : WB.heap.size = wo3.heap.size + 1 := by rw [← hWB]; simp
                                          clear hWB d0 d1 d2 d3 d4 d5 d6 s4 p0
                                          obtain ⟨b23, hb23⟩ : ∃ b, b = wo3.heap.size := ⟨_, rfl⟩
                                          rw [← hb23] at HC23 hzB ⊢
                                          have HB23 := Lib.hid hb23
                                          have hb23l : wo3.heap.size ≤ b23 := by omega
                                          have hb23g : b23 ≤ wo3.heap.size := by omega
                                          clear hb23
                                          have HWB : Hid (Below w.heap.size w WB) := HBWr.out.trans (HBB.out.mono (by omega))
                                          refine (clone_any _ yl WB (HYO.out.ov.keep HWB.out) HYO.out.on (fun t ht => (HYO.out.out t ht).keep HWB.out) hylz).mono ?_
                                          rintro e w10 ⟨v10, rfl, ho10, hw10⟩
                                          have HO10 := Lib.hid ho10; have HW10 := Lib.hid hw10
                                          have hz10 := hw10.size
                                          clear ho10 hw10
                                          obtain ⟨a10, c10, rfl⟩ := HO10.out.slice
                                          have hc23 := (HW10.out.block b23 (by omega)).trans HC23.out
                                          have x0 : w10.cell? ⟨b23, 0, none⟩ = some (.slice a4 yl.length q4) := (cell_of_row w10 b23 0 _ _ _ hc23).trans rfl
                                          have x1 : w10.cell? ⟨b23, 1, none⟩ = some (.slice a5 ys.length q5) := (cell_of_row w10 b23 1 _ _ _ hc23).trans rfl
                                          have z0 := frozen_of_row w10 b23 0 _ _ hc23
                                          have z1 := frozen_of_row w10 b23 1 _ _ hc23
                                          go_wp2_with fail
                                          generalize hWC : World.setCell (World.setCell w10 _ _) _ _ = WC
                                          have HCC : Hid (WC.heap[b23]? = some (.cells #[.slice a10 yl.length c10, .slice none 0 0, .bool y2, .bool y3, .bool y4, .bool y5, .bool y6] 36 (0, 0))) := by
                                            rw [← hWC]
                                            exact heap_setCell_same _ b23 1 _ 36 _ (heap_setCell_same w10 b23 0 _ 36 _ hc23)
                                          have HOC : Hid (OutsP (fun k => k = b23) WB WC) := by
                                            rw [← hWC]
                                            exact (((OutsP.of_below (S := fun k => k = b23) HW10.out).setCell (p := ⟨b23, 0, none⟩) (.inl rfl) _).setCell (p := ⟨b23, 1, none⟩) (.inl rfl) _)
                                          have HRC : Hid (Ow WC WB.heap.size 40 9 TrD.enc (.slice a10 yl.length c10) yl) := by
                                            rw [← hWC]
                                            exact ownsRow_setCell_other (ownsRow_setCell_other HO10.out (a := ⟨b23, 0, none⟩) (fun e => by have := (HO10.out.lt b23 e).1; omega) _) (a := ⟨b23, 1, none⟩) (fun e => by have := (HO10.out.lt b23 e).1; omega) _
                                          have hzC := HOC.out.size
                                          clear hWC hc23 x0 x1 z0 z1 HO10 HW10 hz10
                                          as_aux_lemma =>
                                            go_loopw [137] (fun ii wr => ∃ (k : Nat) (ev : Value) (E : List EsD), k ≤ ys.length ∧ ii = .int .i64 k ∧ Hid (wr.heap[b23]? = some (.cells #[.slice a10 yl.length c10, ev, .bool y2, .bool y3, .bool y4, .bool y5, .bool y6] 36 (0, 0))) ∧ Hid (Ow wr WC.heap.size 33 1 EsD.enc ev E) ∧ Hid (E.map EsD.l = (ys.take k).map EsD.l) ∧ Hid (∀ e ∈ E, Ow wr WC.heap.size 40 9 TrD.enc e.v e.l) ∧ Hid (Dis E) ∧ Hid (OutsP (fun k => k = b23) WC wr)) (fun ii _ => ys.length - (intOf ii).toNat)
                                            case atStart => exact ⟨0, _, [], Nat.zero_le _, rfl, HCC, ow_nil _ _ _ _ _, rfl, fun e he => (by simp at he), fun i j hij hj => absurd hj (by simp), OutsP.refl _ _⟩
                                            case round =>
                                              as_aux_lemma =>
                                                obtain ⟨k, ev, E, hk7, rfl, hc23, hev, hel, hee, hdis, ho7⟩ := hrel
                                                have hsz12 := ho7.out.size
                                                have HO12 : Hid (OutsP (fun k => k = b23) WB wr) := HOC.out.trans ho7.out (fun x hx => .inl hx)
                                                have HBW12 : Hid (Below w.heap.size w wr) := HWB.out.trans (HO12.out.below (by omega) (fun q hq => by omega))
                                                obtain ⟨ea, ec, rfl⟩ := hev.out.slice
                                                have c23 := hc23.out
                                                have t181 : wr.cell? ⟨b23, 1, none⟩ = some (.slice ea E.length ec) := (cell_of_row wr b23 1 _ _ _ c23).trans rfl
                                                have z181 := frozen_of_row wr b23 1 _ _ c23
                                                have hb23r : b23 < wr.heap.size := by omega
                                                by_cases hlt7 : k < ys.length
                                                · obtain ⟨be, oe, hae, hbe, hce⟩ := HEV.out (by omega)
                                                  subst hae
                                                  have HEL := Lib.hid (map_take_snoc EsD.l ys k hlt7)
                                                  have hem := HYO.out.esc (ys.getD k default) (mem_getD hlt7)
                                                  have e0 := (HBW12.out.cell (p := ⟨be, oe + k * 1 + 0, none⟩) hbe).trans (hce k hlt7 0 (by omega))
                                                  clear hce
                                                  generalize ys.getD k default = z at *
                                                  obtain ⟨zv, zl⟩ := z
                                                  simp only [EsD.enc, Nat.mul_one, Nat.add_zero] at e0 HEL
                                                  obtain ⟨hem1, hem2, hem3, hem4⟩ := hem
                                                  simp only at hem1 hem2 hem3 hem4
                                                  obtain ⟨az, qz, hzv, -, -⟩ := sl_open hem1
                                                  subst hzv
                                                  have hber : be < wr.heap.size := by omega
                                                  have hk70 : (0 : Int) ≤ (k : Int) := by omega
                                                  have hk71 : (k : Int) < (ys.length : Int) := by omega
                                                  obtain ⟨wo5, rfl⟩ : ∃ wo5 : World, wo5 = wr := ⟨_, rfl⟩
                                                  have HCL := Lib.hid (fun W (hW : Below w.heap.size w W) => clone_any _ zl W (hem1.keep hW) hem4 (fun t ht => (hem2 t ht).keep hW) hem3)
                                                  clear hem1 hem2 hem3 hem4
                                                  have hEz : E.length ≤ 1048576 := by
                                                    have := congrArg List.length hel.out
                                                    simp at this
                                                    omega
                                                  go_wp2_with fail
                                                  go_region_law (first | (refine step_pushG elt34 rfl (.tmp 142) (.tmp 145) rfl WC.heap.size EsD.enc (.slice ea E.length ec) E rfl (HEV13.out.alloc _) w13.heap.size ⟨.slice a13 zl.length c13, zl⟩ _ rfl (heap_new' _ _) rfl (by intro u hu; simp at hu; rw [hu]; rfl) (by omega) (by simp; omega) ?_; intro g2 cap w14 h1 h2 h3; have hne18 : (Value.slice ea E.length ec).ownBlock ≠ some b23 := fun e => (by have := (hev.out.lt b23 e).1; omega); have c18'' : w14.heap[b23]? = some (.cells #[.slice a10 yl.length c10, .slice ea E.length ec, .bool y2, .bool y3, .bool y4, .bool y5, .bool y6] 36 (0, 0)) := (h2.block b23 (by simp; omega) (fun e => hne18 e.symm)).trans ((Below.heap_alloc _ _ _ (by omega)).trans c18'); have q1 : w14.cell? ⟨b23, 1, none⟩ = some (.slice ea E.length ec) := (cell_of_row w14 b23 1 _ _ _ c18'').trans rfl; have q2 := frozen_of_row w14 b23 1 _ _ c18'') | (go_simp; go_at_call 14; refine (HCL.out wo5.drew HBW12.out.drew).mono ?_; rintro e w13 ⟨v13, rfl, ho13, hw13⟩; have HO13 := Lib.hid ho13; have HB13 : Hid (Below wo5.heap.size wo5 w13) := (below_drew wo5).trans hw13; have hz13 := HB13.out.size; have c18' := (HB13.out.block b23 hb23r).trans c23; have t18' : w13.cell? ⟨b23, 1, none⟩ = some (.slice ea E.length ec) := (cell_of_row w13 b23 1 _ _ _ c18').trans rfl; have HEV13 := Lib.hid (hev.out.keep HB13.out); have hwz13 : WC.heap.size ≤ w13.heap.size := (by omega); have hb2313 : b23 < w13.heap.size := (by omega); clear ho13 hw13; obtain ⟨a13, c13, rfl⟩ := HO13.out.slice))
                                                  all_goals
                                                    have HOU : Hid (OutsP (fun k => k = b23 ∨ (Value.slice ea E.length ec).ownBlock = some k) wo5 (w14.setCell ⟨b23, 1, none⟩ (.slice (some ⟨g2, 0, none⟩) (E.length + 1) cap))) := (((OutsP.of_below HB13.out).alloc _).grown h2 (fun k hk => .inl (.inr hk))).setCell (p := ⟨b23, 1, none⟩) (.inl (.inl rfl)) _
                                                    have hg2b : g2 ≠ b23 := fun e => by
                                                      subst e
                                                      rcases h3 with h | h
                                                      · exact hne18 h
                                                      · first | omega | (simp at h; omega)
                                                    have HP : Hid (∃ (ev : Value) (E' : List EsD), (.slice (some ⟨g2, 0, none⟩) (E.length + 1) cap : Value) = ev ∧ Hid ((w14.setCell ⟨b23, 1, none⟩ (.slice (some ⟨g2, 0, none⟩) (E.length + 1) cap)).heap[b23]? = some (.cells #[.slice a10 yl.length c10, ev, .bool y2, .bool y3, .bool y4, .bool y5, .bool y6] 36 (0, 0))) ∧ Hid (Ow (w14.setCell ⟨b23, 1, none⟩ (.slice (some ⟨g2, 0, none⟩) (E.length + 1) cap)) WC.heap.size 33 1 EsD.enc ev E') ∧ Hid (E'.map EsD.l = (ys.take (k + 1)).map EsD.l) ∧ Hid (∀ e ∈ E', Ow (w14.setCell ⟨b23, 1, none⟩ (.slice (some ⟨g2, 0, none⟩) (E.length + 1) cap)) WC.heap.size 40 9 TrD.enc e.v e.l) ∧ Hid (Dis E') ∧ Hid (OutsP (fun k => k = b23) WC (w14.setCell ⟨b23, 1, none⟩ (.slice (some ⟨g2, 0, none⟩) (E.length + 1) cap)))) := by
                                                      refine ⟨_, E ++ [⟨.slice a13 zl.length c13, zl⟩], rfl, ?_, ?_, ?_, ?_, ?_, ?_⟩
                                                      · exact heap_setCell_same w14 b23 1 _ 36 _ c18''
                                                      · have h4 := ownsRow_setCell_other h1 (a := ⟨b23, 1, none⟩) (by simpa [Value.ownBlock] using hg2b) (.slice (some ⟨g2, 0, none⟩) (E.length + 1) cap)
                                                        exact h4
                                                      · unfold Hid
                                                        rw [HEL.out, List.map_append, hel.out]
                                                        rfl
                                                      · intro e he
                                                        rcases List.mem_append.1 he with he | he
                                                        · refine own_outs (hee.out e he) HOU.out (fun q hq h => ?_)
                                                          rcases h with h | h
                                                          · have := ((hee.out e he).lt q hq).1; omega
                                                          · exact ow_ne2 (hee.out e he) hev.out (by rw [hq, h]) (by rw [hq]; simp)
                                                        · obtain rfl : e = ⟨.slice a13 zl.length c13, zl⟩ := by simpa using he
                                                          have h5 : Ow w13 WC.heap.size 40 9 TrD.enc (.slice a13 zl.length c13) zl := HO13.out.base (by show WC.heap.size ≤ wo5.heap.size; omega)
                                                          have h6 : ∀ q, (Value.slice a13 zl.length c13).ownBlock = some q → wo5.heap.size ≤ q := fun q hq => (HO13.out.lt q hq).1
                                                          exact ownsRow_setCell_other ((h5.alloc _).kept h2 (by
                                                            cases hu : (Value.slice a13 zl.length c13).ownBlock with
                                                            | none => exact .inl rfl
                                                            | some q => exact .inr (fun e => by have h7 := h6 q hu; have h8 := (hev.out.lt q e.symm).2; omega))) (a := ⟨b23, 1, none⟩) (fun e => by have := h6 b23 e; omega) _
                                                      · exact dis_snoc (B := wo5.heap.size) hdis.out (fun x hx q hq => ((hee.out x hx).lt q hq).2) (fun q hq => (HO13.out.lt q hq).1)
                                                      · exact ho7.out.trans HOU.out (fun x hx => by
                                                          rcases hx with hx | hx
                                                          · exact .inl hx
                                                          · exact .inr (hev.out.lt x hx).1)
                                                    clear h1 h2 h3
                                                    obtain ⟨ev', E', rfl, k1, k2, k3, k4, k5, k6⟩ := HP.out
                                                    go_wp2
                                                    go_roundw
                                                    case rel => exact ⟨k + 1, _, E', by omega, by go_num, k1, k2, k3, k4, k5, k6⟩
                                                    case measure => simp [intOf]; omega
                                                · obtain rfl : k = ys.length := by omega
                                                  have hel2 := hel.out
                                                  rw [List.take_length] at hel2
                                                  have HEL2 := Lib.hid hel2
                                                  clear hel2 t181 z181
                                                  have HB3r : Hid (Below wo3.heap.size wo3 wr) := HBB.out.trans (HO12.out.below (by omega) (fun q hq => by omega))
                                                  have HB9r : Hid (Below w9.heap.size w9 wr) := HBr.out.trans (HB3r.out.mono (by have := HBr.out.size; omega))
                                                  obtain ⟨Y, HY⟩ : ∃ Y : LoD, Hid (Y = ⟨.slice a10 yl.length c10, .slice ea E.length ec, y2, y3, y4, y5, y6, yl, E⟩) := ⟨_, rfl⟩
                                                  have HRr : Hid (Ow wr WB.heap.size 40 9 TrD.enc (.slice a10 yl.length c10) yl) := HRC.out.outs ho7.out (fun q h1 h2 => by show ¬ q = b23; omega)
                                                  have HLOY : Hid (LoO wr WB.heap.size Y) := by
                                                    rw [HY.out]
                                                    refine ⟨fun e he => ?_, hev.out.base hzC, dis_cons (B := WC.heap.size) hdis.out (fun q hq => (HRC.out.lt q hq).2) (fun x hx q hq => ((hee.out x hx).lt q hq).1)⟩
                                                    rcases List.mem_cons.1 he with rfl | he
                                                    · exact HRr.out
                                                    · exact (hee.out e he).base hzC
                                                  have HLBY : Hid (loB sF.1.length Y = true) := by
                                                    unfold Hid
                                                    rw [HMA.out.st.len, ← HLO.out, HY.out]
                                                    exact loB_alike rfl HEL2.out
                                                  have HMW : Hid (MB xlo.length w8 wr w6.heap.size w7.heap.size (w7.heap.size + 1) g ov9 sF) := HM9.out.keep HB9r.out
                                                  have hYv : Y.val = .agg #[.slice a10 yl.length c10, .slice ea E.length ec, .bool y2, .bool y3, .bool y4, .bool y5, .bool y6] := by rw [HY.out]; rfl
                                                  have HRL := Lib.hid (ren_loc sF.1 w7.heap.size WB.heap.size w6.heap.size _ Y wr HLOY.out HMW.out.gb.a HMW.out.gb.n HLBY.out)
                                                  rw [hYv] at HRL
                                                  clear hYv
                                                  have t0 : wr.cell? ⟨b23, 0, none⟩ = some (.slice a10 yl.length c10) := (cell_of_row wr b23 0 _ _ _ c23).trans rfl
                                                  have t1 : wr.cell? ⟨b23, 1, none⟩ = some (.slice ea E.length ec) := (cell_of_row wr b23 1 _ _ _ c23).trans rfl
                                                  have t2 : wr.cell? ⟨b23, 2, none⟩ = some (.bool y2) := (cell_of_row wr b23 2 _ _ _ c23).trans rfl
                                                  have t3 : wr.cell? ⟨b23, 3, none⟩ = some (.bool y3) := (cell_of_row wr b23 3 _ _ _ c23).trans rfl
                                                  have t4 : wr.cell? ⟨b23, 4, none⟩ = some (.bool y4) := (cell_of_row wr b23 4 _ _ _ c23).trans rfl
                                                  have t5 : wr.cell? ⟨b23, 5, none⟩ = some (.bool y5) := (cell_of_row wr b23 5 _ _ _ c23).trans rfl
                                                  have t6 : wr.cell? ⟨b23, 6, none⟩ = some (.bool y6) := (cell_of_row wr b23 6 _ _ _ c23).trans rfl
                                                  obtain ⟨wo5, rfl⟩ : ∃ wo5 : World, wo5 = wr := ⟨_, rfl⟩
                                                  go_wp2_with fail
                                                  refine HRL.out.mono ?_
                                                  rintro e w15 ⟨rfl, hrows, ho15⟩
                                                  have HRW := Lib.hid hrows
                                                  have HO15 := Lib.hid ho15
                                                  have HIN : Hid (∀ q, InL Y q → WB.heap.size ≤ q) := fun q hq => (InL.low HLOY.out hq).1
                                                  have hz15 := ho15.size
                                                  have HB315 : Hid (Below wo3.heap.size wo3 w15) := HB3r.out.trans (ho15.below (by have := HB3r.out.size; omega) (fun q hq => by have := HIN.out q hq; omega))
                                                  clear hrows ho15 t0 t1 t2 t3 t4 t5 t6
                                                  have c15 := (HO15.out.block b23 hb23r (fun h => by have := HIN.out b23 h; omega)).trans c23
                                                  have t0 : w15.cell? ⟨b23, 0, none⟩ = some (.slice a10 yl.length c10) := (cell_of_row w15 b23 0 _ _ _ c15).trans rfl
                                                  have t1 : w15.cell? ⟨b23, 1, none⟩ = some (.slice ea E.length ec) := (cell_of_row w15 b23 1 _ _ _ c15).trans rfl
                                                  have t2 : w15.cell? ⟨b23, 2, none⟩ = some (.bool y2) := (cell_of_row w15 b23 2 _ _ _ c15).trans rfl
                                                  have t3 : w15.cell? ⟨b23, 3, none⟩ = some (.bool y3) := (cell_of_row w15 b23 3 _ _ _ c15).trans rfl
                                                  have t4 : w15.cell? ⟨b23, 4, none⟩ = some (.bool y4) := (cell_of_row w15 b23 4 _ _ _ c15).trans rfl
                                                  have t5 : w15.cell? ⟨b23, 5, none⟩ = some (.bool y5) := (cell_of_row w15 b23 5 _ _ _ c15).trans rfl
                                                  have t6 : w15.cell? ⟨b23, 6, none⟩ = some (.bool y6) := (cell_of_row w15 b23 6 _ _ _ c15).trans rfl
                                                  clear c15
                                                  have HEV15 : Hid (Ow w15 WB.heap.size 33 1 EsD.enc (.slice ea E.length ec) E) := own_outs (hev.out.base hzC) HO15.out (fun q hq h => by
                                                    obtain ⟨i2, hi2, hv2⟩ := h
                                                    exact ow_ne3 (HLOY.out.rows _ (mem_getD hi2)) hev.out (by decide) (by rw [hv2, hq]) (by rw [hv2]; simp))
                                                  have HLOW : Hid (LoW w WA.heap.size w15 (renL sF.1 Y)) := by
                                                    have h := low_of (w := w) (N := sF.1) HRW.out (by rw [HY.out]; exact HEV15.out) (by
                                                      rw [HY.out]
                                                      intro e he
                                                      rcases List.mem_cons.1 he with rfl | he
                                                      · exact HYO.out.out
                                                      · exact esc_ok HEL2.out (fun z hz => (HYO.out.esc z hz).2.1) e he) (fun x hx => by have := HMA.out.st.num x hx; unfold okI; omega) HLBY.out
                                                    exact ⟨h.ov.base (by omega), h.out, h.ev.base (by omega), fun e he => ⟨(h.esc e he).1.base (by omega), (h.esc e he).2⟩⟩
                                                  have HLOA : Hid (LoA (renL sF.1 Y) (renL sF.1 ⟨.slice a4 yl.length q4, .slice a5 ys.length q5, y2, y3, y4, y5, y6, yl, ys⟩)) := by
                                                    rw [HY.out]
                                                    exact loA_ren rfl rfl rfl rfl rfl rfl HEL2.out
                                                  have hYe : ∀ j, j < 7 → LoD.enc (renL sF.1 Y) j = LoD.enc ⟨.slice a10 yl.length c10, .slice ea E.length ec, y2, y3, y4, y5, y6, yl, E⟩ j := by
                                                    rw [HY.out]
                                                    intro j hj
                                                    match j, hj with
                                                    | 0, _ => rfl
                                                    | 1, _ => rfl
                                                    | 2, _ => rfl
                                                    | 3, _ => rfl
                                                    | 4, _ => rfl
                                                    | 5, _ => rfl
                                                    | 6, _ => rfl
                                                  have HYE : Hid ((List.range 7).map (LoD.enc (renL sF.1 Y)) = [.slice a10 yl.length c10, .slice ea E.length ec, .bool y2, .bool y3, .bool y4, .bool y5, .bool y6]) := by
                                                    rw [HY.out]
                                                    rfl
                                                  clear hYe
                                                  generalize renL sF.1 Y = T15 at *
                                                  have cbq := (HB315.out.block bq (by omega)).trans hbo.out
                                                  have HOL9 : Hid (Ow w15 WA.heap.size 36 7 LoD.enc lv D) := hol.out.keep HB315.out
                                                  have HRD15 : Hid (∀ t ∈ D, LoW w WA.heap.size w15 t) := fun t ht => (hrd.out t ht).outs (OutsP.of_below (S := fun _ => False) HB315.out) (fun q _ _ h => h)
                                                  obtain ⟨la', lc', hlv⟩ := HOL9.out.slice
                                                  have qb4 : w15.cell? ⟨bq, 4, none⟩ = some lv := (cell_of_row w15 bq 4 _ _ _ cbq).trans rfl
                                                  rw [hlv] at qb4 HOL9 cbq
                                                  have hbqr : bq < w15.heap.size := by omega
                                                  have hDz : D.length ≤ 1048576 := by
                                                    have := hdl.out
                                                    omega
                                                  have HWAr : WA.heap.size ≤ w15.heap.size := by omega
                                                  have HYC : Hid ((#[.slice a10 yl.length c10, .slice ea E.length ec, .bool y2, .bool y3, .bool y4, .bool y5, .bool y6] : Array Value).toList = (List.range 7).map (LoD.enc T15)) := HYE.out.symm
                                                  have HYO1 : Hid (∀ u ∈ (#[.slice a10 yl.length c10, .slice ea E.length ec, .bool y2, .bool y3, .bool y4, .bool y5, .bool y6] : Array Value).toList, u.oneCell' = true) := by
                                                    intro u hu
                                                    simp at hu
                                                    rcases hu with rfl | rfl | rfl | rfl | rfl | rfl | rfl <;> rfl
                                                  have hWAr1 : ∀ o : Obj, WA.heap.size ≤ (w15.alloc o).heap.size := fun o => by simp; omega
                                                  go_wp2_with (first | (with_reducible refine wpList_build1 elt24 (o := ⟨some 156, _, _, _, _, _⟩) rfl _ rfl #[.slice a10 yl.length c10, .slice ea E.length ec, .bool y2, .bool y3, .bool y4, .bool y5, .bool y6] rfl rfl (by decide) ?_) | (at_builtin; go_must (refine wpList_push elt24 rfl _ _ rfl WA.heap.size LoD.enc (.slice la' D.length lc') D rfl (HOL9.out.alloc _) w15.heap.size T15 #[.slice a10 yl.length c10, .slice ea E.length ec, .bool y2, .bool y3, .bool y4, .bool y5, .bool y6] rfl (heap_new' w15 _) HYC.out HYO1.out (by omega) (hWAr1 _) (Hid.out ?c6))))
                                                  case c6 =>
                                                    unfold Hid
                                                    intro g3 cap w16 h1 h2 h3
                                                    have hneq : (Value.slice la' D.length lc').ownBlock ≠ some bq := fun e => by have := (HOL9.out.lt bq e).1; omega
                                                    have cbq' := (h2.block bq (by simp; omega) (fun e => hneq e.symm)).trans ((Below.heap_alloc _ _ _ hbqr).trans cbq)
                                                    have r1 : w16.cell? ⟨bq, 4, none⟩ = some (.slice la' D.length lc') := (cell_of_row w16 bq 4 _ _ _ cbq').trans rfl
                                                    have r2 := frozen_of_row w16 bq 4 _ _ cbq'
                                                    have hgq : g3 ≠ bq := fun e => by
                                                      subst e
                                                      rcases h3 with h | h
                                                      · exact hneq h
                                                      · omega
                                                    have HOU : Hid (OutsP (fun k => k = bq ∨ (Value.slice la' D.length lc').ownBlock = some k) w15 (w16.setCell ⟨bq, 4, none⟩ (.slice (some ⟨g3, 0, none⟩) (D.length + 1) cap))) := (((OutsP.refl _ w15).alloc _).grown h2 (fun k hk => .inl (.inr hk))).setCell (p := ⟨bq, 4, none⟩) (.inl (.inl rfl)) _
                                                    have HOW8 : Hid (OutsP (fun k => k = bq) WA (w16.setCell ⟨bq, 4, none⟩ (.slice (some ⟨g3, 0, none⟩) (D.length + 1) cap))) := (hou.out.trans (OutsP.of_below (S := fun k => k = bq) (HB315.out)) (fun x hx => .inl hx)).trans HOU.out (fun x hx => by
                                                      rcases hx with hx | hx
                                                      · exact .inl hx
                                                      · exact .inr (HOL9.out.lt x hx).1)
                                                    have hne : ∀ {α : Type} {E2 sz : Nat} {enc : α → Nat → Value} {v : Value} {l : List α}, Ow w15 WA.heap.size E2 sz enc v l → E2 ≠ 36 → ∀ q, v.ownBlock = some q → ¬ (q = bq ∨ (Value.slice la' D.length lc').ownBlock = some q) := fun ho hE q hq h => by
                                                      rcases h with h | h
                                                      · have := (ho.lt q hq).1; omega
                                                      · exact ow_ne3 ho HOL9.out hE (by rw [hq, h]) (by rw [hq]; simp)
                                                    have HLK : Hid (∀ t, LoW w WA.heap.size w15 t → LoW w WA.heap.size (w16.setCell ⟨bq, 4, none⟩ (.slice (some ⟨g3, 0, none⟩) (D.length + 1) cap)) t) := fun t h5 =>
                                                      ⟨own_outs h5.ov HOU.out (hne h5.ov (by decide)), h5.out, own_outs h5.ev HOU.out (hne h5.ev (by decide)), fun e he => ⟨own_outs (h5.esc e he).1 HOU.out (hne (h5.esc e he).1 (by decide)), (h5.esc e he).2⟩⟩
                                                    have HP : Hid (∃ (lv : Value) (D' : List LoD), (.slice (some ⟨g3, 0, none⟩) (D.length + 1) cap : Value) = lv ∧ Hid ((w16.setCell ⟨bq, 4, none⟩ (.slice (some ⟨g3, 0, none⟩) (D.length + 1) cap)).heap[bq]? = some (.cells #[.string xn, .int .i64 xp, .slice fa xfr.length fc, .slice ia xin.length ic, lv, .int .i64 N5, .int .i64 N6, .int .i64 x7, .int .i64 x8, .int .i64 x9] 26 (0, 0))) ∧ Hid (Ow (w16.setCell ⟨bq, 4, none⟩ (.slice (some ⟨g3, 0, none⟩) (D.length + 1) cap)) WA.heap.size 36 7 LoD.enc lv D') ∧ Hid (D'.length = i + 1) ∧ Hid (∀ q, q < i + 1 → LoA (D'.getD q default) (renL sF.1 (xlo.getD (sF.2.getD q default).toNat default))) ∧ Hid (∀ t ∈ D', LoW w WA.heap.size (w16.setCell ⟨bq, 4, none⟩ (.slice (some ⟨g3, 0, none⟩) (D.length + 1) cap)) t)) := by
                                                      refine ⟨_, D ++ [T15], rfl, ?_, ?_, ?_, ?_, ?_⟩
                                                      · exact heap_setCell_same w16 bq 4 _ 26 _ cbq'
                                                      · exact ownsRow_setCell_other h1 (a := ⟨bq, 4, none⟩) (by simpa [Value.ownBlock] using hgq) (.slice (some ⟨g3, 0, none⟩) (D.length + 1) cap)
                                                      · unfold Hid; rw [List.length_append, hdl.out]; rfl
                                                      · exact HAQ.out _ HLOA.out
                                                      · intro t ht
                                                        rcases List.mem_append.1 ht with ht | ht
                                                        · exact HLK.out t (HRD15.out t ht)
                                                        · obtain rfl : t = T15 := by simpa using ht
                                                          exact HLK.out t HLOW.out
                                                    clear h1 h2 h3 hne
                                                    obtain ⟨lv', D', rfl, k1, k2, k3, k4, k5⟩ := HP.out
                                                    go_wp2
                                                    go_roundw
                                                    case rel => exact ⟨i + 1, _, D', by go_num, by omega, k1, k2, k3, k4, k5, HOW8⟩
                                                    case measure => simp [intOf]; omega
                                        · obtain rfl : i = sF.2.length := by omega
                                          have HZW9 : Hid (w9.heap[w.heap.size + 1]? = some (.cells ZARR 26 (0, 0))) := (HM9.out.out.block (w.heap.size + 1) (by have := HB8.out.size; omega) (by omega)).trans ((HB8.out.block _ (by omega)).trans ((HB7.out.block _ (by omega)).trans HZB6.out))
                                          have hzb := (HBr.out.block (w.heap.size + 1) (by omega)).trans HZW9.out
                                          obtain ⟨ga, gc, hlv⟩ := hol.out.slice
                                          rw [hlv] at hbo
                                          have HOLL := Lib.hid hol.out
                                          rw [hlv] at HOLL
                                          have q0 : wr.cell? ⟨bq, 0, none⟩ = some (.string xn) := (cell_of_row wr bq 0 _ _ _ hbo.out).trans rfl
                                          have q1 : wr.cell? ⟨bq, 1, none⟩ = some (.int .i64 xp) := (cell_of_row wr bq 1 _ _ _ hbo.out).trans rfl
                                          have q2 : wr.cell? ⟨bq, 2, none⟩ = some (.slice fa xfr.length fc) := (cell_of_row wr bq 2 _ _ _ hbo.out).trans rfl
                                          have q3 : wr.cell? ⟨bq, 3, none⟩ = some (.slice ia xin.length ic) := (cell_of_row wr bq 3 _ _ _ hbo.out).trans rfl
                                          have q4 : wr.cell? ⟨bq, 4, none⟩ = some (.slice ga D.length gc) := (cell_of_row wr bq 4 _ _ _ hbo.out).trans rfl
                                          have q5 : wr.cell? ⟨bq, 5, none⟩ = some (.int .i64 N5) := (cell_of_row wr bq 5 _ _ _ hbo.out).trans rfl
                                          have q6 : wr.cell? ⟨bq, 6, none⟩ = some (.int .i64 N6) := (cell_of_row wr bq 6 _ _ _ hbo.out).trans rfl
                                          have q7 : wr.cell? ⟨bq, 7, none⟩ = some (.int .i64 x7) := (cell_of_row wr bq 7 _ _ _ hbo.out).trans rfl
                                          have q8 : wr.cell? ⟨bq, 8, none⟩ = some (.int .i64 x8) := (cell_of_row wr bq 8 _ _ _ hbo.out).trans rfl
                                          have q9 : wr.cell? ⟨bq, 9, none⟩ = some (.int .i64 x9) := (cell_of_row wr bq 9 _ _ _ hbo.out).trans rfl
                                          have z0 : wr.cell? ⟨w.heap.size + 1, 0, none⟩ = some (.string ByteArray.empty) := (cell_of_row wr (w.heap.size + 1) 0 _ _ _ hzb).trans rfl
                                          have f0 := frozen_of_row wr (w.heap.size + 1) 0 _ _ hzb
                                          have z1 : wr.cell? ⟨w.heap.size + 1, 1, none⟩ = some (.int .i64 0) := (cell_of_row wr (w.heap.size + 1) 1 _ _ _ hzb).trans rfl
                                          have f1 := frozen_of_row wr (w.heap.size + 1) 1 _ _ hzb
                                          have z2 : wr.cell? ⟨w.heap.size + 1, 2, none⟩ = some (.slice none 0 0) := (cell_of_row wr (w.heap.size + 1) 2 _ _ _ hzb).trans rfl
                                          have f2 := frozen_of_row wr (w.heap.size + 1) 2 _ _ hzb
                                          have z3 : wr.cell? ⟨w.heap.size + 1, 3, none⟩ = some (.slice none 0 0) := (cell_of_row wr (w.heap.size + 1) 3 _ _ _ hzb).trans rfl
                                          have f3 := frozen_of_row wr (w.heap.size + 1) 3 _ _ hzb
                                          have z4 : wr.cell? ⟨w.heap.size + 1, 4, none⟩ = some (.slice none 0 0) := (cell_of_row wr (w.heap.size + 1) 4 _ _ _ hzb).trans rfl
                                          have f4 := frozen_of_row wr (w.heap.size + 1) 4 _ _ hzb
                                          have z5 : wr.cell? ⟨w.heap.size + 1, 5, none⟩ = some (.int .i64 0) := (cell_of_row wr (w.heap.size + 1) 5 _ _ _ hzb).trans rfl
                                          have f5 := frozen_of_row wr (w.heap.size + 1) 5 _ _ hzb
                                          have z6 : wr.cell? ⟨w.heap.size + 1, 6, none⟩ = some (.int .i64 0) := (cell_of_row wr (w.heap.size + 1) 6 _ _ _ hzb).trans rfl
                                          have f6 := frozen_of_row wr (w.heap.size + 1) 6 _ _ hzb
                                          have z7 : wr.cell? ⟨w.heap.size + 1, 7, none⟩ = some (.int .i64 0) := (cell_of_row wr (w.heap.size + 1) 7 _ _ _ hzb).trans rfl
                                          have f7 := frozen_of_row wr (w.heap.size + 1) 7 _ _ hzb
                                          have z8 : wr.cell? ⟨w.heap.size + 1, 8, none⟩ = some (.int .i64 0) := (cell_of_row wr (w.heap.size + 1) 8 _ _ _ hzb).trans rfl
                                          have f8 := frozen_of_row wr (w.heap.size + 1) 8 _ _ hzb
                                          have z9 : wr.cell? ⟨w.heap.size + 1, 9, none⟩ = some (.int .i64 0) := (cell_of_row wr (w.heap.size + 1) 9 _ _ _ hzb).trans rfl
                                          have f9 := frozen_of_row wr (w.heap.size + 1) 9 _ _ hzb
                                          have n0 : wr.cell? ⟨w7.heap.size, 0, none⟩ = some (.slice (some ⟨g, 0, none⟩) xlo.length xlo.length) := (cell_of_row wr _ 0 _ _ _ HMr.out.gb.a).trans rfl
                                          have hneq : bq ≠ w.heap.size + 1 := by omega
                                          have hneg : w7.heap.size ≠ w.heap.size + 1 := by omega
                                          have hnb := HMr.out.gb.a
                                          have hz10 : ZARR.size = 10 := rfl
                                          have hzbH := Lib.hid hzb; have hnbH := Lib.hid hnb
                                          have H46 := hbo
                                          clear hzb hnb
                                          go_wp2_with fail
                                          refine region46 _ _ wr (by simp) bq (w.heap.size + 1) w7.heap.size #[.string xn, .int .i64 xp, .slice fa xfr.length fc, .slice ia xin.length ic, .slice ga D.length gc, .int .i64 N5, .int .i64 N6, .int .i64 x7, .int .i64 x8, .int .i64 x9] ZARR _ _ _ (by rfl) (by rfl) (by rfl) H46.out hzbH.out hnbH.out rfl hneg rfl hz10 (proc_all _ _ _ _ _ _ _ _ _ _ _ _ _ _ _ _) ?_
                                          intro WF hZF hOF
                                          have HZF := Lib.hid hZF
                                          have HOF := Lib.hid hOF
                                          clear hZF hOF
                                          go_simp
                                          go_wp2
                                          clear q0 q1 q2 q3 q4 q5 q6 q7 q8 q9 z0 f0 z1 f1 z2 f2 z3 f3 z4 f4 z5 f5 z6 f6 z7 f7 z8 f8 z9 f9
                                          have c0 : WF.cell? ⟨w.heap.size + 1, 0, none⟩ = some (.string xn) := (cell_of_row WF (w.heap.size + 1) 0 _ _ _ HZF.out).trans rfl
                                          have c1 : WF.cell? ⟨w.heap.size + 1, 1, none⟩ = some (.int .i64 xp) := (cell_of_row WF (w.heap.size + 1) 1 _ _ _ HZF.out).trans rfl
                                          have c2 : WF.cell? ⟨w.heap.size + 1, 2, none⟩ = some (.slice fa xfr.length fc) := (cell_of_row WF (w.heap.size + 1) 2 _ _ _ HZF.out).trans rfl
                                          have c3 : WF.cell? ⟨w.heap.size + 1, 3, none⟩ = some (.slice ia xin.length ic) := (cell_of_row WF (w.heap.size + 1) 3 _ _ _ HZF.out).trans rfl
                                          have c4 : WF.cell? ⟨w.heap.size + 1, 4, none⟩ = some (.slice ga D.length gc) := (cell_of_row WF (w.heap.size + 1) 4 _ _ _ HZF.out).trans rfl
                                          have c5 : WF.cell? ⟨w.heap.size + 1, 5, none⟩ = some (.int .i64 N5) := (cell_of_row WF (w.heap.size + 1) 5 _ _ _ HZF.out).trans rfl
                                          have c6 : WF.cell? ⟨w.heap.size + 1, 6, none⟩ = some (.int .i64 N6) := (cell_of_row WF (w.heap.size + 1) 6 _ _ _ HZF.out).trans rfl
                                          have c7 : WF.cell? ⟨w.heap.size + 1, 7, none⟩ = some (.int .i64 x7) := (cell_of_row WF (w.heap.size + 1) 7 _ _ _ HZF.out).trans rfl
                                          have c8 : WF.cell? ⟨w.heap.size + 1, 8, none⟩ = some (.int .i64 x8) := (cell_of_row WF (w.heap.size + 1) 8 _ _ _ HZF.out).trans rfl
                                          have c9 : WF.cell? ⟨w.heap.size + 1, 9, none⟩ = some (.int .i64 x9) := (cell_of_row WF (w.heap.size + 1) 9 _ _ _ HZF.out).trans rfl
                                          have HBF : Hid (Below w.heap.size w WF) := HBWr.out.trans (HOF.out.below (by omega) (fun k h => by omega))
                                          have HNF : Hid (Ow WF w.heap.size 3 1 iEnc (.slice (some ⟨g, 0, none⟩) xlo.length xlo.length) sF.1) := (HMr.out.gb.n.outs HOF.out (fun k h1 h2 => by omega)).base (by omega)
                                          have HLF : Hid (Ow WF w.heap.size 36 7 LoD.enc (.slice ga D.length gc) D) := (HOLL.out.outs HOF.out (fun k h1 h2 => by omega)).base (by omega)
                                          have HWF : Hid (∀ t ∈ D, LoW w w.heap.size WF t) := fun t ht => by
                                            have h5 := (hrd.out t ht).outs HOF.out (fun k h1 h2 => by omega)
                                            exact ⟨h5.ov.base (by omega), h5.out, h5.ev.base (by omega), fun e he => ⟨(h5.esc e he).1.base (by omega), (h5.esc e he).2⟩⟩
                                          have HRF : Hid (∀ t ∈ D, t.rd WF) := fun t ht => (HWF.out t ht).rd HBF.out
                                          refine bodyPost_ret (v := .tuple #[.agg #[.string xn, .int .i64 xp, .slice fa xfr.length fc, .slice ia xin.length ic, .slice ga D.length gc, .int .i64 N5, .int .i64 N6, .int .i64 x7, .int .i64 x8, .int .i64 x9], .slice (some ⟨g, 0, none⟩) xlo.length xlo.length, .int .i64 0]) (by simp [results, Try.results4, go_sem, *]) rfl ?_
                                          rw [← HPP.out]
                                          refine ⟨fun _ => ⟨⟨xn, xp, .slice fa xfr.length fc, .slice ia xin.length ic, .slice ga D.length gc, N5, N6, x7, x8, x9, xfr, xin, D⟩, _, rfl, ?_, ?_, ⟨HX.out.fv.keep HBF.out, HX.out.iv.keep HBF.out, sl_of_ow HLF.out, HRF.out⟩, HLF.out, HWF.out, HBF.out⟩, fun h => (by rw [HFIT.out] at h; exact absurd h (by decide))⟩
                                          · have hsw := HSW.out
                                            have hlen : D.length = sF.2.length := hdl.out
                                            refine ⟨rfl, rfl, ?_, ?_, rfl, rfl, rfl, rfl, rfl, ?_, ?_⟩
                                            · show N5 = (stW _ more).1.getD x5.toNat default
                                              rw [← hsw, HP5.out, Int.toNat_natCast]
                                              exact HN5.out.symm
                                            · show N6 = (stW _ more).1.getD x6.toNat default
                                              rw [← hsw, HP6.out, Int.toNat_natCast]
                                              exact HN6.out.symm
                                            · show D.length = ((stW _ more).2.map _).length
                                              rw [← hsw, List.length_map]
                                              exact hlen
                                            · intro q hq
                                              have h := hal.out q (by rw [← hlen]; exact hq)
                                              show LoA (D.getD q default) (((stW _ more).2.map fun i => renL (stW _ more).1 (xlo.getD i.toNat default)).getD q default)
                                              rw [← hsw, getD_map _ _ q (by rw [← hlen]; exact hq)]
                                              exact h
                                          · rw [← HSW.out]
                                            exact HNF.out
end Go.Proofs.Ytioacgjggogflab

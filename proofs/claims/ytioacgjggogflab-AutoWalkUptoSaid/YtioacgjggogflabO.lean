/-
  auto.Walk's each, with each of the closures that it is called with.
-/
import Derived.Test.YtioacgjggogflabN
import Derived.Test.YtioacgjggogflabL0
namespace Go.Proofs.Ytioacgjggogflab
open Go.ChangeShapes Go.WideShapes Go.ChangeAt Go.RowKit Go.Deep Go.Joins Go.Instr
set_option maxRecDepth 100000 in
set_option maxHeartbeats 8000000 in
theorem each_10 (y : LoD) (c1 c2 : Value) (w : World) (hov : Sl w 9 TrD.enc y.ov y.out) (hev : Sl w 1 EsD.enc y.ev y.esc) (hes : ∀ e ∈ y.esc, Sl w 9 TrD.enc e.v e.l) (Inv : Nat → Nat → World → Prop)
    (h0 : ∀ w', Below w.heap.size w w' → Inv 0 0 w')
    (hstep : ∀ i j b off n c w1, i < (lsOf y).length → j < ((lsOf y).getD i default).l.length → ((lsOf y).getD i default).v = .slice (some ⟨b, off, none⟩) n c → Inv i j w1 → w.heap.size < w1.heap.size →
      Calls Try.prog 10 #[.pointer (some ⟨b, off + j * 9, none⟩), c1, c2] w1 fun e w2 => e = .returned (.tuple #[]) ∧ Inv i (j + 1) w2 ∧ w1.heap.size ≤ w2.heap.size ∧ w2.heap[w.heap.size]? = w1.heap[w.heap.size]? ∧ ∀ k, y.ev.ownBlock = some k → 0 < y.esc.length → k < w.heap.size → w2.heap[k]? = w1.heap[k]?)
    (hnext : ∀ i w1, i < (lsOf y).length → Inv i ((lsOf y).getD i default).l.length w1 → Inv (i + 1) 0 w1) :
    Calls Try.prog 9 #[y.val, .func (.func 10) #[] #[c1, c2]] w fun e w' => e = .returned (.tuple #[]) ∧ Inv (lsOf y).length 0 w' := by
  have HST := Lib.hid hstep; have HNX := Lib.hid hnext; have HES := Lib.hid hes; have H0 := Lib.hid h0
  clear hstep hnext hes h0
  obtain ⟨yo, ye, y2, y3, y4, y5, y6, yl, ys⟩ := y
  obtain ⟨a4, q4, ho1, m4, HOV⟩ := sl_open hov
  obtain ⟨a5, q5, ho2, m5, HEV⟩ := sl_open hev
  simp only at ho1 ho2 HOV HEV m4 m5 HES
  subst ho1; subst ho2
  clear hov hev
  obtain ⟨LS, HLS⟩ : ∃ LS, Hid (LS = lsOf ⟨.slice a4 yl.length q4, .slice a5 ys.length q5, y2, y3, y4, y5, y6, yl, ys⟩) := ⟨_, rfl⟩
  rw [← HLS.out] at HST HNX ⊢
  have HL0 : Hid (LS.getD 0 default = ⟨.slice a4 yl.length q4, yl⟩) := by unfold Hid; rw [HLS.out]; rfl
  have HLK : Hid (∀ k, k < ys.length → LS.getD (k + 1) default = ys.getD k default) := fun k hk => by rw [HLS.out]; simp [lsOf, List.getD_eq_getElem?_getD]
  have HLN : Hid (LS.length = ys.length + 1) := by unfold Hid; rw [HLS.out]; simp [lsOf]
  unfold LoD.val
  simp only
  go_enter Try.func9, Try.ntmps9
  go_wp2_with fail
  generalize hW1 : World.alloc w _ = W1
  have HG : Hid (Below w.heap.size w W1) := by rw [← hW1]; exact (Below.refl _ _).alloc (Nat.le_refl _) _
  have HBX : Hid (W1.heap[w.heap.size]? = some (.cells #[.slice a4 yl.length q4, .slice a5 ys.length q5, .bool y2, .bool y3, .bool y4, .bool y5, .bool y6] 36 (0, 0))) := by rw [← hW1]; exact heap_new' _ _
  have hz1 : w.heap.size < W1.heap.size := by rw [← hW1]; simp [go_sem]
  clear hW1
  go_loopw [11] (fun ii wr => ∃ j : Nat, j ≤ yl.length ∧ ii = .int .i64 j ∧ Hid (Inv 0 j wr) ∧ Hid (wr.heap[w.heap.size]? = some (.cells #[.slice a4 yl.length q4, .slice a5 ys.length q5, .bool y2, .bool y3, .bool y4, .bool y5, .bool y6] 36 (0, 0))) ∧ w.heap.size < wr.heap.size ∧ Hid (∀ k, (Value.slice a5 ys.length q5).ownBlock = some k → 0 < ys.length → k < w.heap.size → wr.heap[k]? = w.heap[k]?)) (fun ii _ => yl.length - (intOf ii).toNat)
  case atStart => exact ⟨0, Nat.zero_le _, rfl, H0.out W1 HG.out, HBX, hz1, fun k _ _ hk => HG.out.block k hk⟩
  case round =>
    obtain ⟨j, hj, rfl, hinv, hbx, hzr, hek⟩ := hrel
    have s0 : wr.cell? ⟨w.heap.size, 0, none⟩ = some (.slice a4 yl.length q4) := (cell_of_row wr w.heap.size 0 _ _ _ hbx.out).trans rfl
    have s1 : wr.cell? ⟨w.heap.size, 1, none⟩ = some (.slice a5 ys.length q5) := (cell_of_row wr w.heap.size 1 _ _ _ hbx.out).trans rfl
    by_cases hjl : j < yl.length
    · obtain ⟨bo, oo, rfl, -, -⟩ := HOV.out (by omega)
      have hst := HST.out 0 j bo oo yl.length q4 wr (by rw [HLN.out]; omega) (by rw [HL0.out]; exact hjl) (by rw [HL0.out]) hinv.out hzr
      have HS := Lib.hid hst
      clear hst
      have hj0 : (0 : Int) ≤ (j : Int) := by omega
      go_wp2_with fail
      refine HS.out.mono ?_
      rintro e w2 ⟨rfl, k1, k2, k3, k4⟩
      have HI2 := Lib.hid k1
      have HB2 : Hid (w2.heap[w.heap.size]? = some (.cells #[.slice (some ⟨bo, oo, none⟩) yl.length q4, .slice a5 ys.length q5, .bool y2, .bool y3, .bool y4, .bool y5, .bool y6] 36 (0, 0))) := k3.trans hbx.out
      have HE2 : Hid (∀ k, (Value.slice a5 ys.length q5).ownBlock = some k → 0 < ys.length → k < w.heap.size → w2.heap[k]? = w.heap[k]?) := fun k hk h0 hl => (k4 k hk h0 hl).trans (hek.out k hk h0 hl)
      have hz2 : w.heap.size < w2.heap.size := by omega
      clear k1 k2 k3 k4
      go_wp2
      go_roundw
      case rel => exact ⟨j + 1, by omega, by go_num, HI2, HB2, hz2, HE2⟩
      case measure => simp [intOf]; omega
    · obtain rfl : j = yl.length := by omega
      have HI1 : Hid (Inv 1 0 wr) := HNX.out 0 wr (by rw [HLN.out]; omega) (by rw [HL0.out]; exact hinv.out)
      obtain ⟨wo, rfl⟩ : ∃ wo : World, wo = wr := ⟨_, rfl⟩
      go_wp2_with fail
      go_loopw [24] (fun ii wr => ∃ k : Nat, k ≤ ys.length ∧ ii = .int .i64 k ∧ Hid (Inv (k + 1) 0 wr) ∧ Hid (wr.heap[w.heap.size]? = some (.cells #[.slice a4 yl.length q4, .slice a5 ys.length q5, .bool y2, .bool y3, .bool y4, .bool y5, .bool y6] 36 (0, 0))) ∧ w.heap.size < wr.heap.size ∧ Hid (∀ k, (Value.slice a5 ys.length q5).ownBlock = some k → 0 < ys.length → k < w.heap.size → wr.heap[k]? = w.heap[k]?)) (fun ii _ => ys.length - (intOf ii).toNat)
      case atStart => exact ⟨0, Nat.zero_le _, rfl, HI1, hbx, hzr, hek⟩
      case round =>
        clear s0 s1
        obtain ⟨k, hk, rfl, hinv, hbx, hzr, hek⟩ := hrel
        by_cases hkl : k < ys.length
        · obtain ⟨be, oe, rfl, hbe, hce⟩ := HEV.out (by omega)
          have e0 := (World.cell?_of_block (a := ⟨be, oe + k * 1 + 0, none⟩) (hek.out be rfl (by omega) hbe)).trans (hce k hkl 0 (by omega))
          have hlk := HLK.out k hkl
          have hsl := HES.out (ys.getD k default) (mem_getD hkl)
          clear hce
          generalize ys.getD k default = z at *
          obtain ⟨zv, zl⟩ := z
          simp only [EsD.enc, Nat.mul_one, Nat.add_zero] at e0 hsl
          have HLK1 := Lib.hid hlk
          clear hlk
          obtain ⟨az, qz, rfl, mz, HZ⟩ := sl_open hsl
          clear hsl
          have hber : be < wr.heap.size := by omega
          have hk0 : (0 : Int) ≤ (k : Int) := by omega
          have hk1 : (k : Int) < (ys.length : Int) := by omega
          obtain ⟨wo2, rfl⟩ : ∃ wo2 : World, wo2 = wr := ⟨_, rfl⟩
          go_wp2_with fail
          go_loopw [30] (fun ii wr => ∃ j : Nat, j ≤ zl.length ∧ ii = .int .i64 j ∧ Hid (Inv (k + 1) j wr) ∧ Hid (wr.heap[w.heap.size]? = some (.cells #[.slice a4 yl.length q4, .slice (some ⟨be, oe, none⟩) ys.length q5, .bool y2, .bool y3, .bool y4, .bool y5, .bool y6] 36 (0, 0))) ∧ w.heap.size < wr.heap.size ∧ Hid (∀ k, (Value.slice (some ⟨be, oe, none⟩) ys.length q5).ownBlock = some k → 0 < ys.length → k < w.heap.size → wr.heap[k]? = w.heap[k]?)) (fun ii _ => zl.length - (intOf ii).toNat)
          case atStart => exact ⟨0, Nat.zero_le _, rfl, hinv, hbx, hzr, hek⟩
          case round =>
            obtain ⟨j, hj, rfl, hinvj, hbxj, hzrj, hekj⟩ := hrel
            by_cases hjl : j < zl.length
            · obtain ⟨bo, oo, rfl, -, -⟩ := HZ.out (by omega)
              have hst := HST.out (k + 1) j bo oo zl.length qz wr (by rw [HLN.out]; omega) (by rw [HLK1.out]; exact hjl) (by rw [HLK1.out]) hinvj.out hzrj
              have HS := Lib.hid hst
              clear hst
              have hj0 : (0 : Int) ≤ (j : Int) := by omega
              go_wp2_with fail
              refine HS.out.mono ?_
              rintro e w2 ⟨rfl, k1, k2, k3, k4⟩
              have HI2 := Lib.hid k1
              have HB2 := Lib.hid (k3.trans hbxj.out)
              have HE2 : Hid (∀ k, (Value.slice (some ⟨be, oe, none⟩) ys.length q5).ownBlock = some k → 0 < ys.length → k < w.heap.size → w2.heap[k]? = w.heap[k]?) := fun k hk h0 hl => (k4 k hk h0 hl).trans (hekj.out k hk h0 hl)
              have hz2 : w.heap.size < w2.heap.size := by omega
              clear k1 k2 k3 k4
              go_wp2
              go_roundw
              case rel => exact ⟨j + 1, by omega, by go_num, HI2, HB2, hz2, HE2⟩
              case measure => simp [intOf]; omega
            · obtain rfl : j = zl.length := by omega
              have HI2 : Hid (Inv (k + 1 + 1) 0 wr) := HNX.out (k + 1) wr (by rw [HLN.out]; omega) (by rw [HLK1.out]; exact hinvj.out)
              go_wp2
              go_roundw
              case rel => exact ⟨k + 1, by omega, by go_num, HI2, hbxj, hzrj, hekj⟩
              case measure => simp [intOf]; omega
        · obtain rfl : k = ys.length := by omega
          go_wp2
          go_end0
          exact ⟨rfl, by rw [HLN.out]; exact hinv.out⟩
set_option maxRecDepth 100000 in
set_option maxHeartbeats 8000000 in
theorem each_13 (y : LoD) (c1 : Value) (w : World) (hov : Sl w 9 TrD.enc y.ov y.out) (hev : Sl w 1 EsD.enc y.ev y.esc) (hes : ∀ e ∈ y.esc, Sl w 9 TrD.enc e.v e.l) (Inv : Nat → Nat → World → Prop)
    (h0 : ∀ w', Below w.heap.size w w' → Inv 0 0 w')
    (hstep : ∀ i j b off n c w1, i < (lsOf y).length → j < ((lsOf y).getD i default).l.length → ((lsOf y).getD i default).v = .slice (some ⟨b, off, none⟩) n c → Inv i j w1 → w.heap.size < w1.heap.size →
      Calls Try.prog 13 #[.pointer (some ⟨b, off + j * 9, none⟩), c1] w1 fun e w2 => e = .returned (.tuple #[]) ∧ Inv i (j + 1) w2 ∧ w1.heap.size ≤ w2.heap.size ∧ w2.heap[w.heap.size]? = w1.heap[w.heap.size]? ∧ ∀ k, y.ev.ownBlock = some k → 0 < y.esc.length → k < w.heap.size → w2.heap[k]? = w1.heap[k]?)
    (hnext : ∀ i w1, i < (lsOf y).length → Inv i ((lsOf y).getD i default).l.length w1 → Inv (i + 1) 0 w1) :
    Calls Try.prog 9 #[y.val, .func (.func 13) #[] #[c1]] w fun e w' => e = .returned (.tuple #[]) ∧ Inv (lsOf y).length 0 w' := by
  have HST := Lib.hid hstep; have HNX := Lib.hid hnext; have HES := Lib.hid hes; have H0 := Lib.hid h0
  clear hstep hnext hes h0
  obtain ⟨yo, ye, y2, y3, y4, y5, y6, yl, ys⟩ := y
  obtain ⟨a4, q4, ho1, m4, HOV⟩ := sl_open hov
  obtain ⟨a5, q5, ho2, m5, HEV⟩ := sl_open hev
  simp only at ho1 ho2 HOV HEV m4 m5 HES
  subst ho1; subst ho2
  clear hov hev
  obtain ⟨LS, HLS⟩ : ∃ LS, Hid (LS = lsOf ⟨.slice a4 yl.length q4, .slice a5 ys.length q5, y2, y3, y4, y5, y6, yl, ys⟩) := ⟨_, rfl⟩
  rw [← HLS.out] at HST HNX ⊢
  have HL0 : Hid (LS.getD 0 default = ⟨.slice a4 yl.length q4, yl⟩) := by unfold Hid; rw [HLS.out]; rfl
  have HLK : Hid (∀ k, k < ys.length → LS.getD (k + 1) default = ys.getD k default) := fun k hk => by rw [HLS.out]; simp [lsOf, List.getD_eq_getElem?_getD]
  have HLN : Hid (LS.length = ys.length + 1) := by unfold Hid; rw [HLS.out]; simp [lsOf]
  unfold LoD.val
  simp only
  go_enter Try.func9, Try.ntmps9
  go_wp2_with fail
  generalize hW1 : World.alloc w _ = W1
  have HG : Hid (Below w.heap.size w W1) := by rw [← hW1]; exact (Below.refl _ _).alloc (Nat.le_refl _) _
  have HBX : Hid (W1.heap[w.heap.size]? = some (.cells #[.slice a4 yl.length q4, .slice a5 ys.length q5, .bool y2, .bool y3, .bool y4, .bool y5, .bool y6] 36 (0, 0))) := by rw [← hW1]; exact heap_new' _ _
  have hz1 : w.heap.size < W1.heap.size := by rw [← hW1]; simp [go_sem]
  clear hW1
  go_loopw [11] (fun ii wr => ∃ j : Nat, j ≤ yl.length ∧ ii = .int .i64 j ∧ Hid (Inv 0 j wr) ∧ Hid (wr.heap[w.heap.size]? = some (.cells #[.slice a4 yl.length q4, .slice a5 ys.length q5, .bool y2, .bool y3, .bool y4, .bool y5, .bool y6] 36 (0, 0))) ∧ w.heap.size < wr.heap.size ∧ Hid (∀ k, (Value.slice a5 ys.length q5).ownBlock = some k → 0 < ys.length → k < w.heap.size → wr.heap[k]? = w.heap[k]?)) (fun ii _ => yl.length - (intOf ii).toNat)
  case atStart => exact ⟨0, Nat.zero_le _, rfl, H0.out W1 HG.out, HBX, hz1, fun k _ _ hk => HG.out.block k hk⟩
  case round =>
    obtain ⟨j, hj, rfl, hinv, hbx, hzr, hek⟩ := hrel
    have s0 : wr.cell? ⟨w.heap.size, 0, none⟩ = some (.slice a4 yl.length q4) := (cell_of_row wr w.heap.size 0 _ _ _ hbx.out).trans rfl
    have s1 : wr.cell? ⟨w.heap.size, 1, none⟩ = some (.slice a5 ys.length q5) := (cell_of_row wr w.heap.size 1 _ _ _ hbx.out).trans rfl
    by_cases hjl : j < yl.length
    · obtain ⟨bo, oo, rfl, -, -⟩ := HOV.out (by omega)
      have hst := HST.out 0 j bo oo yl.length q4 wr (by rw [HLN.out]; omega) (by rw [HL0.out]; exact hjl) (by rw [HL0.out]) hinv.out hzr
      have HS := Lib.hid hst
      clear hst
      have hj0 : (0 : Int) ≤ (j : Int) := by omega
      go_wp2_with fail
      refine HS.out.mono ?_
      rintro e w2 ⟨rfl, k1, k2, k3, k4⟩
      have HI2 := Lib.hid k1
      have HB2 : Hid (w2.heap[w.heap.size]? = some (.cells #[.slice (some ⟨bo, oo, none⟩) yl.length q4, .slice a5 ys.length q5, .bool y2, .bool y3, .bool y4, .bool y5, .bool y6] 36 (0, 0))) := k3.trans hbx.out
      have HE2 : Hid (∀ k, (Value.slice a5 ys.length q5).ownBlock = some k → 0 < ys.length → k < w.heap.size → w2.heap[k]? = w.heap[k]?) := fun k hk h0 hl => (k4 k hk h0 hl).trans (hek.out k hk h0 hl)
      have hz2 : w.heap.size < w2.heap.size := by omega
      clear k1 k2 k3 k4
      go_wp2
      go_roundw
      case rel => exact ⟨j + 1, by omega, by go_num, HI2, HB2, hz2, HE2⟩
      case measure => simp [intOf]; omega
    · obtain rfl : j = yl.length := by omega
      have HI1 : Hid (Inv 1 0 wr) := HNX.out 0 wr (by rw [HLN.out]; omega) (by rw [HL0.out]; exact hinv.out)
      obtain ⟨wo, rfl⟩ : ∃ wo : World, wo = wr := ⟨_, rfl⟩
      go_wp2_with fail
      go_loopw [24] (fun ii wr => ∃ k : Nat, k ≤ ys.length ∧ ii = .int .i64 k ∧ Hid (Inv (k + 1) 0 wr) ∧ Hid (wr.heap[w.heap.size]? = some (.cells #[.slice a4 yl.length q4, .slice a5 ys.length q5, .bool y2, .bool y3, .bool y4, .bool y5, .bool y6] 36 (0, 0))) ∧ w.heap.size < wr.heap.size ∧ Hid (∀ k, (Value.slice a5 ys.length q5).ownBlock = some k → 0 < ys.length → k < w.heap.size → wr.heap[k]? = w.heap[k]?)) (fun ii _ => ys.length - (intOf ii).toNat)
      case atStart => exact ⟨0, Nat.zero_le _, rfl, HI1, hbx, hzr, hek⟩
      case round =>
        clear s0 s1
        obtain ⟨k, hk, rfl, hinv, hbx, hzr, hek⟩ := hrel
        by_cases hkl : k < ys.length
        · obtain ⟨be, oe, rfl, hbe, hce⟩ := HEV.out (by omega)
          have e0 := (World.cell?_of_block (a := ⟨be, oe + k * 1 + 0, none⟩) (hek.out be rfl (by omega) hbe)).trans (hce k hkl 0 (by omega))
          have hlk := HLK.out k hkl
          have hsl := HES.out (ys.getD k default) (mem_getD hkl)
          clear hce
          generalize ys.getD k default = z at *
          obtain ⟨zv, zl⟩ := z
          simp only [EsD.enc, Nat.mul_one, Nat.add_zero] at e0 hsl
          have HLK1 := Lib.hid hlk
          clear hlk
          obtain ⟨az, qz, rfl, mz, HZ⟩ := sl_open hsl
          clear hsl
          have hber : be < wr.heap.size := by omega
          have hk0 : (0 : Int) ≤ (k : Int) := by omega
          have hk1 : (k : Int) < (ys.length : Int) := by omega
          obtain ⟨wo2, rfl⟩ : ∃ wo2 : World, wo2 = wr := ⟨_, rfl⟩
          go_wp2_with fail
          go_loopw [30] (fun ii wr => ∃ j : Nat, j ≤ zl.length ∧ ii = .int .i64 j ∧ Hid (Inv (k + 1) j wr) ∧ Hid (wr.heap[w.heap.size]? = some (.cells #[.slice a4 yl.length q4, .slice (some ⟨be, oe, none⟩) ys.length q5, .bool y2, .bool y3, .bool y4, .bool y5, .bool y6] 36 (0, 0))) ∧ w.heap.size < wr.heap.size ∧ Hid (∀ k, (Value.slice (some ⟨be, oe, none⟩) ys.length q5).ownBlock = some k → 0 < ys.length → k < w.heap.size → wr.heap[k]? = w.heap[k]?)) (fun ii _ => zl.length - (intOf ii).toNat)
          case atStart => exact ⟨0, Nat.zero_le _, rfl, hinv, hbx, hzr, hek⟩
          case round =>
            obtain ⟨j, hj, rfl, hinvj, hbxj, hzrj, hekj⟩ := hrel
            by_cases hjl : j < zl.length
            · obtain ⟨bo, oo, rfl, -, -⟩ := HZ.out (by omega)
              have hst := HST.out (k + 1) j bo oo zl.length qz wr (by rw [HLN.out]; omega) (by rw [HLK1.out]; exact hjl) (by rw [HLK1.out]) hinvj.out hzrj
              have HS := Lib.hid hst
              clear hst
              have hj0 : (0 : Int) ≤ (j : Int) := by omega
              go_wp2_with fail
              refine HS.out.mono ?_
              rintro e w2 ⟨rfl, k1, k2, k3, k4⟩
              have HI2 := Lib.hid k1
              have HB2 := Lib.hid (k3.trans hbxj.out)
              have HE2 : Hid (∀ k, (Value.slice (some ⟨be, oe, none⟩) ys.length q5).ownBlock = some k → 0 < ys.length → k < w.heap.size → w2.heap[k]? = w.heap[k]?) := fun k hk h0 hl => (k4 k hk h0 hl).trans (hekj.out k hk h0 hl)
              have hz2 : w.heap.size < w2.heap.size := by omega
              clear k1 k2 k3 k4
              go_wp2
              go_roundw
              case rel => exact ⟨j + 1, by omega, by go_num, HI2, HB2, hz2, HE2⟩
              case measure => simp [intOf]; omega
            · obtain rfl : j = zl.length := by omega
              have HI2 : Hid (Inv (k + 1 + 1) 0 wr) := HNX.out (k + 1) wr (by rw [HLN.out]; omega) (by rw [HLK1.out]; exact hinvj.out)
              go_wp2
              go_roundw
              case rel => exact ⟨k + 1, by omega, by go_num, HI2, hbxj, hzrj, hekj⟩
              case measure => simp [intOf]; omega
        · obtain rfl : k = ys.length := by omega
          go_wp2
          go_end0
          exact ⟨rfl, by rw [HLN.out]; exact hinv.out⟩
set_option maxRecDepth 100000 in
set_option maxHeartbeats 8000000 in
theorem each_15 (y : LoD) (c1 : Value) (w : World) (hov : Sl w 9 TrD.enc y.ov y.out) (hev : Sl w 1 EsD.enc y.ev y.esc) (hes : ∀ e ∈ y.esc, Sl w 9 TrD.enc e.v e.l) (Inv : Nat → Nat → World → Prop)
    (h0 : ∀ w', Below w.heap.size w w' → Inv 0 0 w')
    (hstep : ∀ i j b off n c w1, i < (lsOf y).length → j < ((lsOf y).getD i default).l.length → ((lsOf y).getD i default).v = .slice (some ⟨b, off, none⟩) n c → Inv i j w1 → w.heap.size < w1.heap.size →
      Calls Try.prog 15 #[.pointer (some ⟨b, off + j * 9, none⟩), c1] w1 fun e w2 => e = .returned (.tuple #[]) ∧ Inv i (j + 1) w2 ∧ w1.heap.size ≤ w2.heap.size ∧ w2.heap[w.heap.size]? = w1.heap[w.heap.size]? ∧ ∀ k, y.ev.ownBlock = some k → 0 < y.esc.length → k < w.heap.size → w2.heap[k]? = w1.heap[k]?)
    (hnext : ∀ i w1, i < (lsOf y).length → Inv i ((lsOf y).getD i default).l.length w1 → Inv (i + 1) 0 w1) :
    Calls Try.prog 9 #[y.val, .func (.func 15) #[] #[c1]] w fun e w' => e = .returned (.tuple #[]) ∧ Inv (lsOf y).length 0 w' := by
  have HST := Lib.hid hstep; have HNX := Lib.hid hnext; have HES := Lib.hid hes; have H0 := Lib.hid h0
  clear hstep hnext hes h0
  obtain ⟨yo, ye, y2, y3, y4, y5, y6, yl, ys⟩ := y
  obtain ⟨a4, q4, ho1, m4, HOV⟩ := sl_open hov
  obtain ⟨a5, q5, ho2, m5, HEV⟩ := sl_open hev
  simp only at ho1 ho2 HOV HEV m4 m5 HES
  subst ho1; subst ho2
  clear hov hev
  obtain ⟨LS, HLS⟩ : ∃ LS, Hid (LS = lsOf ⟨.slice a4 yl.length q4, .slice a5 ys.length q5, y2, y3, y4, y5, y6, yl, ys⟩) := ⟨_, rfl⟩
  rw [← HLS.out] at HST HNX ⊢
  have HL0 : Hid (LS.getD 0 default = ⟨.slice a4 yl.length q4, yl⟩) := by unfold Hid; rw [HLS.out]; rfl
  have HLK : Hid (∀ k, k < ys.length → LS.getD (k + 1) default = ys.getD k default) := fun k hk => by rw [HLS.out]; simp [lsOf, List.getD_eq_getElem?_getD]
  have HLN : Hid (LS.length = ys.length + 1) := by unfold Hid; rw [HLS.out]; simp [lsOf]
  unfold LoD.val
  simp only
  go_enter Try.func9, Try.ntmps9
  go_wp2_with fail
  generalize hW1 : World.alloc w _ = W1
  have HG : Hid (Below w.heap.size w W1) := by rw [← hW1]; exact (Below.refl _ _).alloc (Nat.le_refl _) _
  have HBX : Hid (W1.heap[w.heap.size]? = some (.cells #[.slice a4 yl.length q4, .slice a5 ys.length q5, .bool y2, .bool y3, .bool y4, .bool y5, .bool y6] 36 (0, 0))) := by rw [← hW1]; exact heap_new' _ _
  have hz1 : w.heap.size < W1.heap.size := by rw [← hW1]; simp [go_sem]
  clear hW1
  go_loopw [11] (fun ii wr => ∃ j : Nat, j ≤ yl.length ∧ ii = .int .i64 j ∧ Hid (Inv 0 j wr) ∧ Hid (wr.heap[w.heap.size]? = some (.cells #[.slice a4 yl.length q4, .slice a5 ys.length q5, .bool y2, .bool y3, .bool y4, .bool y5, .bool y6] 36 (0, 0))) ∧ w.heap.size < wr.heap.size ∧ Hid (∀ k, (Value.slice a5 ys.length q5).ownBlock = some k → 0 < ys.length → k < w.heap.size → wr.heap[k]? = w.heap[k]?)) (fun ii _ => yl.length - (intOf ii).toNat)
  case atStart => exact ⟨0, Nat.zero_le _, rfl, H0.out W1 HG.out, HBX, hz1, fun k _ _ hk => HG.out.block k hk⟩
  case round =>
    obtain ⟨j, hj, rfl, hinv, hbx, hzr, hek⟩ := hrel
    have s0 : wr.cell? ⟨w.heap.size, 0, none⟩ = some (.slice a4 yl.length q4) := (cell_of_row wr w.heap.size 0 _ _ _ hbx.out).trans rfl
    have s1 : wr.cell? ⟨w.heap.size, 1, none⟩ = some (.slice a5 ys.length q5) := (cell_of_row wr w.heap.size 1 _ _ _ hbx.out).trans rfl
    by_cases hjl : j < yl.length
    · obtain ⟨bo, oo, rfl, -, -⟩ := HOV.out (by omega)
      have hst := HST.out 0 j bo oo yl.length q4 wr (by rw [HLN.out]; omega) (by rw [HL0.out]; exact hjl) (by rw [HL0.out]) hinv.out hzr
      have HS := Lib.hid hst
      clear hst
      have hj0 : (0 : Int) ≤ (j : Int) := by omega
      go_wp2_with fail
      refine HS.out.mono ?_
      rintro e w2 ⟨rfl, k1, k2, k3, k4⟩
      have HI2 := Lib.hid k1
      have HB2 : Hid (w2.heap[w.heap.size]? = some (.cells #[.slice (some ⟨bo, oo, none⟩) yl.length q4, .slice a5 ys.length q5, .bool y2, .bool y3, .bool y4, .bool y5, .bool y6] 36 (0, 0))) := k3.trans hbx.out
      have HE2 : Hid (∀ k, (Value.slice a5 ys.length q5).ownBlock = some k → 0 < ys.length → k < w.heap.size → w2.heap[k]? = w.heap[k]?) := fun k hk h0 hl => (k4 k hk h0 hl).trans (hek.out k hk h0 hl)
      have hz2 : w.heap.size < w2.heap.size := by omega
      clear k1 k2 k3 k4
      go_wp2
      go_roundw
      case rel => exact ⟨j + 1, by omega, by go_num, HI2, HB2, hz2, HE2⟩
      case measure => simp [intOf]; omega
    · obtain rfl : j = yl.length := by omega
      have HI1 : Hid (Inv 1 0 wr) := HNX.out 0 wr (by rw [HLN.out]; omega) (by rw [HL0.out]; exact hinv.out)
      obtain ⟨wo, rfl⟩ : ∃ wo : World, wo = wr := ⟨_, rfl⟩
      go_wp2_with fail
      go_loopw [24] (fun ii wr => ∃ k : Nat, k ≤ ys.length ∧ ii = .int .i64 k ∧ Hid (Inv (k + 1) 0 wr) ∧ Hid (wr.heap[w.heap.size]? = some (.cells #[.slice a4 yl.length q4, .slice a5 ys.length q5, .bool y2, .bool y3, .bool y4, .bool y5, .bool y6] 36 (0, 0))) ∧ w.heap.size < wr.heap.size ∧ Hid (∀ k, (Value.slice a5 ys.length q5).ownBlock = some k → 0 < ys.length → k < w.heap.size → wr.heap[k]? = w.heap[k]?)) (fun ii _ => ys.length - (intOf ii).toNat)
      case atStart => exact ⟨0, Nat.zero_le _, rfl, HI1, hbx, hzr, hek⟩
      case round =>
        clear s0 s1
        obtain ⟨k, hk, rfl, hinv, hbx, hzr, hek⟩ := hrel
        by_cases hkl : k < ys.length
        · obtain ⟨be, oe, rfl, hbe, hce⟩ := HEV.out (by omega)
          have e0 := (World.cell?_of_block (a := ⟨be, oe + k * 1 + 0, none⟩) (hek.out be rfl (by omega) hbe)).trans (hce k hkl 0 (by omega))
          have hlk := HLK.out k hkl
          have hsl := HES.out (ys.getD k default) (mem_getD hkl)
          clear hce
          generalize ys.getD k default = z at *
          obtain ⟨zv, zl⟩ := z
          simp only [EsD.enc, Nat.mul_one, Nat.add_zero] at e0 hsl
          have HLK1 := Lib.hid hlk
          clear hlk
          obtain ⟨az, qz, rfl, mz, HZ⟩ := sl_open hsl
          clear hsl
          have hber : be < wr.heap.size := by omega
          have hk0 : (0 : Int) ≤ (k : Int) := by omega
          have hk1 : (k : Int) < (ys.length : Int) := by omega
          obtain ⟨wo2, rfl⟩ : ∃ wo2 : World, wo2 = wr := ⟨_, rfl⟩
          go_wp2_with fail
          go_loopw [30] (fun ii wr => ∃ j : Nat, j ≤ zl.length ∧ ii = .int .i64 j ∧ Hid (Inv (k + 1) j wr) ∧ Hid (wr.heap[w.heap.size]? = some (.cells #[.slice a4 yl.length q4, .slice (some ⟨be, oe, none⟩) ys.length q5, .bool y2, .bool y3, .bool y4, .bool y5, .bool y6] 36 (0, 0))) ∧ w.heap.size < wr.heap.size ∧ Hid (∀ k, (Value.slice (some ⟨be, oe, none⟩) ys.length q5).ownBlock = some k → 0 < ys.length → k < w.heap.size → wr.heap[k]? = w.heap[k]?)) (fun ii _ => zl.length - (intOf ii).toNat)
          case atStart => exact ⟨0, Nat.zero_le _, rfl, hinv, hbx, hzr, hek⟩
          case round =>
            obtain ⟨j, hj, rfl, hinvj, hbxj, hzrj, hekj⟩ := hrel
            by_cases hjl : j < zl.length
            · obtain ⟨bo, oo, rfl, -, -⟩ := HZ.out (by omega)
              have hst := HST.out (k + 1) j bo oo zl.length qz wr (by rw [HLN.out]; omega) (by rw [HLK1.out]; exact hjl) (by rw [HLK1.out]) hinvj.out hzrj
              have HS := Lib.hid hst
              clear hst
              have hj0 : (0 : Int) ≤ (j : Int) := by omega
              go_wp2_with fail
              refine HS.out.mono ?_
              rintro e w2 ⟨rfl, k1, k2, k3, k4⟩
              have HI2 := Lib.hid k1
              have HB2 := Lib.hid (k3.trans hbxj.out)
              have HE2 : Hid (∀ k, (Value.slice (some ⟨be, oe, none⟩) ys.length q5).ownBlock = some k → 0 < ys.length → k < w.heap.size → w2.heap[k]? = w.heap[k]?) := fun k hk h0 hl => (k4 k hk h0 hl).trans (hekj.out k hk h0 hl)
              have hz2 : w.heap.size < w2.heap.size := by omega
              clear k1 k2 k3 k4
              go_wp2
              go_roundw
              case rel => exact ⟨j + 1, by omega, by go_num, HI2, HB2, hz2, HE2⟩
              case measure => simp [intOf]; omega
            · obtain rfl : j = zl.length := by omega
              have HI2 : Hid (Inv (k + 1 + 1) 0 wr) := HNX.out (k + 1) wr (by rw [HLN.out]; omega) (by rw [HLK1.out]; exact hinvj.out)
              go_wp2
              go_roundw
              case rel => exact ⟨k + 1, by omega, by go_num, HI2, hbxj, hzrj, hekj⟩
              case measure => simp [intOf]; omega
        · obtain rfl : k = ys.length := by omega
          go_wp2
          go_end0
          exact ⟨rfl, by rw [HLN.out]; exact hinv.out⟩
end Go.Proofs.Ytioacgjggogflab

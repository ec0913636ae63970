/-
  AutoWalk's walk.
-/
import Derived.Test.YtioacgjggogflabRB
namespace Go.Proofs.Ytioacgjggogflab
open Go.ChangeShapes Go.WideShapes Go.ChangeAt Go.RowKit Go.Deep Go.Joins Go.Instr
set_option maxRecDepth 100000 in
set_option maxHeartbeats 16000000 in
theorem law_any (x : PrD) (vm : Value) (more : List Int) (w : World) (hx : x.rd w) (hm : Sl w 1 iEnc vm more)
    (hA : ∀ W, Below w.heap.size w W → Calls Try.prog 4 #[x.val, vm] W (AR x more W)) (hR : ∀ W, Below w.heap.size w W → Calls Try.prog 5 #[x.val, vm] W (RR x more W)) :
    Calls Try.prog 3 #[x.val, vm] w fun e w' => e = .returned (.bool true) ∧ Below w.heap.size w w' := by
  have HA := Lib.hid hA; have HR := Lib.hid hR
  clear hA hR
  obtain ⟨xn, xp, xf, xi, xl, x5, x6, x7, x8, x9, xfr, xin, xlo⟩ := x
  obtain ⟨xfa, xfc, h1, -, -⟩ := sl_open hx.fv
  obtain ⟨xia, xic, h2, -, -⟩ := sl_open hx.iv
  obtain ⟨xla, xlc, h3, xml, xHL⟩ := sl_open hx.lv
  simp only at h1 h2 h3 xHL xml
  subst h1; subst h2; subst h3
  obtain ⟨am, cm, rfl, -, -⟩ := sl_open hm
  clear hx hm xHL
  unfold PrD.val at HA HR ⊢
  simp only at HA HR ⊢
  obtain ⟨X, HXE⟩ : ∃ X : PrD, Hid (X = ⟨xn, xp, .slice xfa xfr.length xfc, .slice xia xin.length xic, .slice xla xlo.length xlc, x5, x6, x7, x8, x9, xfr, xin, xlo⟩) := ⟨_, rfl⟩
  rw [← HXE.out] at HA HR
  go_enter Try.func3, Try.ntmps3
  go_wp2_with fail
  generalize hW1 : World.alloc w _ = W1
  have HB1 : Hid (Below w.heap.size w W1) := by rw [← hW1]; exact (Below.refl _ _).alloc (Nat.le_refl _) _
  have HPB1 : Hid (W1.heap[w.heap.size]? = some (.cells #[.string xn, .int .i64 xp, .slice xfa xfr.length xfc, .slice xia xin.length xic, .slice xla xlo.length xlc, .int .i64 x5, .int .i64 x6, .int .i64 x7, .int .i64 x8, .int .i64 x9] 26 (0, 0))) := by rw [← hW1]; exact heap_new' _ _
  have hz1 : W1.heap.size = w.heap.size + 1 := by rw [← hW1]; simp
  clear hW1
  refine (HA.out W1 HB1.out).mono ?_
  rintro e w2 ⟨q, nv, er, L, rfl, hsp, hnv, hqrd, hqlv, hlow, hb2⟩
  have hpb2 := (hb2.block w.heap.size (by omega)).trans HPB1.out
  have hz2 := hb2.size
  have HB2 := Lib.hid hb2; have HQRD := Lib.hid hqrd; have HNV := Lib.hid hnv; have HLOW := Lib.hid hlow; have HQLV := Lib.hid hqlv
  have HSP := Lib.hid hsp
  obtain ⟨qn, qp, qf, qi, ql, q5, q6, q7, q8, q9, qfr, qin, qlo⟩ := q
  obtain ⟨qfa, qfc, h1, -, -⟩ := sl_open hqrd.fv
  obtain ⟨qia, qic, h2, -, -⟩ := sl_open hqrd.iv
  obtain ⟨qla, qlc, h3, qml, qHL⟩ := sl_open hqrd.lv
  simp only at h1 h2 h3 qHL qml
  subst h1; subst h2; subst h3
  obtain ⟨na, nc, rfl⟩ := hnv.slice
  clear hsp hnv hqrd hqlv hlow hb2
  unfold PrD.val
  simp only
  have hbw2 : w.heap.size < w2.heap.size := by omega
  have s0 : w2.cell? ⟨w.heap.size, 0, none⟩ = some (.string xn) := (cell_of_row w2 (w.heap.size) 0 _ _ _ hpb2).trans rfl
  have s1 : w2.cell? ⟨w.heap.size, 1, none⟩ = some (.int .i64 xp) := (cell_of_row w2 (w.heap.size) 1 _ _ _ hpb2).trans rfl
  have s2 : w2.cell? ⟨w.heap.size, 2, none⟩ = some (.slice xfa xfr.length xfc) := (cell_of_row w2 (w.heap.size) 2 _ _ _ hpb2).trans rfl
  have s3 : w2.cell? ⟨w.heap.size, 3, none⟩ = some (.slice xia xin.length xic) := (cell_of_row w2 (w.heap.size) 3 _ _ _ hpb2).trans rfl
  have s4 : w2.cell? ⟨w.heap.size, 4, none⟩ = some (.slice xla xlo.length xlc) := (cell_of_row w2 (w.heap.size) 4 _ _ _ hpb2).trans rfl
  have s5 : w2.cell? ⟨w.heap.size, 5, none⟩ = some (.int .i64 x5) := (cell_of_row w2 (w.heap.size) 5 _ _ _ hpb2).trans rfl
  have s6 : w2.cell? ⟨w.heap.size, 6, none⟩ = some (.int .i64 x6) := (cell_of_row w2 (w.heap.size) 6 _ _ _ hpb2).trans rfl
  have s7 : w2.cell? ⟨w.heap.size, 7, none⟩ = some (.int .i64 x7) := (cell_of_row w2 (w.heap.size) 7 _ _ _ hpb2).trans rfl
  have s8 : w2.cell? ⟨w.heap.size, 8, none⟩ = some (.int .i64 x8) := (cell_of_row w2 (w.heap.size) 8 _ _ _ hpb2).trans rfl
  have s9 : w2.cell? ⟨w.heap.size, 9, none⟩ = some (.int .i64 x9) := (cell_of_row w2 (w.heap.size) 9 _ _ _ hpb2).trans rfl
  have HPB2 := Lib.hid hpb2
  clear hpb2
  go_wp2_with fail
  generalize hW3 : World.alloc w2 _ = W3
  have HB3 : Hid (Below w2.heap.size w2 W3) := by rw [← hW3]; exact (Below.refl _ _).alloc (Nat.le_refl _) _
  have HQB3 : Hid (W3.heap[w2.heap.size]? = some (.cells #[.string qn, .int .i64 qp, .slice qfa qfr.length qfc, .slice qia qin.length qic, .slice qla qlo.length qlc, .int .i64 q5, .int .i64 q6, .int .i64 q7, .int .i64 q8, .int .i64 q9] 26 (0, 0))) := by rw [← hW3]; exact heap_new' _ _
  have hz3 : W3.heap.size = w2.heap.size + 1 := by rw [← hW3]; simp
  clear hW3 s0 s1 s2 s3 s4 s5 s6 s7 s8 s9
  refine (HR.out W3 (HB1.out.trans ((HB2.out.mono (by omega)).trans (HB3.out.mono (by omega))))).mono ?_
  rintro e w4 ⟨r, mv, er2, L2, rfl, hsp2, hmv, hrrd, hb4⟩
  obtain ⟨hal, rfl, rfl⟩ := HSP.out.alike hsp2
  have hz4 := hb4.size
  have hqb4 := (hb4.block w2.heap.size (by omega)).trans HQB3.out
  have hpb4 := (hb4.block w.heap.size (by omega)).trans ((HB3.out.block w.heap.size (by omega)).trans HPB2.out)
  have HB4 := Lib.hid hb4; have HRRD := Lib.hid hrrd; have HMV := Lib.hid hmv; have HAL := Lib.hid hal
  obtain ⟨rn, rp, rf, ri, rl, r5, r6, r7, r8, r9, rfr, rin, rlo⟩ := r
  obtain ⟨rfa, rfc, h1, -, -⟩ := sl_open hrrd.fv
  obtain ⟨ria, ric, h2, -, -⟩ := sl_open hrrd.iv
  obtain ⟨rla, rlc, h3, rml, rHL⟩ := sl_open hrrd.lv
  simp only at h1 h2 h3 rHL rml
  subst h1; subst h2; subst h3
  obtain ⟨ma, mc, rfl⟩ := hmv.slice
  clear hsp2 hmv hrrd hal hb4
  unfold PrD.val
  simp only
  have g0 : w4.cell? ⟨w2.heap.size, 0, none⟩ = some (.string qn) := (cell_of_row w4 (w2.heap.size) 0 _ _ _ hqb4).trans rfl
  have g1 : w4.cell? ⟨w2.heap.size, 1, none⟩ = some (.int .i64 qp) := (cell_of_row w4 (w2.heap.size) 1 _ _ _ hqb4).trans rfl
  have g2 : w4.cell? ⟨w2.heap.size, 2, none⟩ = some (.slice qfa qfr.length qfc) := (cell_of_row w4 (w2.heap.size) 2 _ _ _ hqb4).trans rfl
  have g3 : w4.cell? ⟨w2.heap.size, 3, none⟩ = some (.slice qia qin.length qic) := (cell_of_row w4 (w2.heap.size) 3 _ _ _ hqb4).trans rfl
  have g4 : w4.cell? ⟨w2.heap.size, 4, none⟩ = some (.slice qla qlo.length qlc) := (cell_of_row w4 (w2.heap.size) 4 _ _ _ hqb4).trans rfl
  have g5 : w4.cell? ⟨w2.heap.size, 5, none⟩ = some (.int .i64 q5) := (cell_of_row w4 (w2.heap.size) 5 _ _ _ hqb4).trans rfl
  have g6 : w4.cell? ⟨w2.heap.size, 6, none⟩ = some (.int .i64 q6) := (cell_of_row w4 (w2.heap.size) 6 _ _ _ hqb4).trans rfl
  have g7 : w4.cell? ⟨w2.heap.size, 7, none⟩ = some (.int .i64 q7) := (cell_of_row w4 (w2.heap.size) 7 _ _ _ hqb4).trans rfl
  have g8 : w4.cell? ⟨w2.heap.size, 8, none⟩ = some (.int .i64 q8) := (cell_of_row w4 (w2.heap.size) 8 _ _ _ hqb4).trans rfl
  have g9 : w4.cell? ⟨w2.heap.size, 9, none⟩ = some (.int .i64 q9) := (cell_of_row w4 (w2.heap.size) 9 _ _ _ hqb4).trans rfl
  have HQB4 := Lib.hid hqb4; have HPB4 := Lib.hid hpb4
  have hbq4 : w2.heap.size < w4.heap.size := by omega
  clear hqb4 hpb4
  go_wp2_with fail
  generalize hW5 : World.alloc w4 _ = W5
  have HB5 : Hid (Below w4.heap.size w4 W5) := by rw [← hW5]; exact (Below.refl _ _).alloc (Nat.le_refl _) _
  have hz5 : W5.heap.size = w4.heap.size + 1 := by rw [← hW5]; simp
  clear hW5 g0 g1 g2 g3 g4 g5 g6 g7 g8 g9
  have HB24 : Hid (Below w2.heap.size w2 w4) := HB3.out.trans (HB4.out.mono (by omega))
  refine (proc_true ⟨qn, qp, .slice qfa qfr.length qfc, .slice qia qin.length qic, .slice qla qlo.length qlc, q5, q6, q7, q8, q9, qfr, qin, qlo⟩ ⟨rn, rp, .slice rfa rfr.length rfc, .slice ria rin.length ric, .slice rla rlo.length rlc, r5, r6, r7, r8, r9, rfr, rin, rlo⟩ W5 (HQRD.out.keep (HB24.out.trans (HB5.out.mono (by omega)))) (HRRD.out.keep HB5.out) HAL.out).mono ?_
  rintro e w6 ⟨rfl, hw6⟩
  have HB6 : Hid (Below w4.heap.size w4 w6) := HB5.out.trans (hw6.mono (by omega))
  have hz6 := hw6.size
  clear hw6
  have HNV6 : Hid (Ow w6 W1.heap.size 3 1 iEnc (.slice na L.length nc) L) := HNV.out.keep (HB24.out.trans (HB6.out.mono (by omega)))
  have HMV6 : Hid (Ow w6 W3.heap.size 3 1 iEnc (.slice ma L.length mc) L) := HMV.out.keep HB6.out
  go_wp2_with fail
  refine (ints_any _ _ L L w6 (sl_of_ow HNV6.out) (sl_of_ow HMV6.out)).mono ?_
  rw [decide_eq_true (rfl : L = L)]
  rintro e w7 ⟨rfl, hw7⟩
  have HB7 : Hid (Below w4.heap.size w4 w7) := HB6.out.trans (hw7.mono (by omega))
  have HMV7 : Hid (Ow w7 W3.heap.size 3 1 iEnc (.slice ma L.length mc) L) := HMV6.out.keep hw7
  have hz7 := hw7.size
  clear hw7
  have HQB7 : Hid (w7.heap[w2.heap.size]? = some (.cells #[.string qn, .int .i64 qp, .slice qfa qfr.length qfc, .slice qia qin.length qic, .slice qla qlo.length qlc, .int .i64 q5, .int .i64 q6, .int .i64 q7, .int .i64 q8, .int .i64 q9] 26 (0, 0))) := (HB7.out.block _ (by omega)).trans HQB4.out
  have HPB7 : Hid (w7.heap[w.heap.size]? = some (.cells #[.string xn, .int .i64 xp, .slice xfa xfr.length xfc, .slice xia xin.length xic, .slice xla xlo.length xlc, .int .i64 x5, .int .i64 x6, .int .i64 x7, .int .i64 x8, .int .i64 x9] 26 (0, 0))) := (HB7.out.block _ (by omega)).trans HPB4.out
  have HB27 : Hid (Below w2.heap.size w2 w7) := HB24.out.trans (HB7.out.mono (by omega))
  obtain ⟨bq, hbq⟩ : ∃ b, b = w2.heap.size := ⟨_, rfl⟩
  rw [← hbq] at HQB7 ⊢
  have hbqg : w2.heap.size ≤ bq := by omega
  have hbql : bq < w7.heap.size := by omega
  clear hbq
  go_wp2_with fail
  go_loopw [13] (fun ii wr => ∃ i : Nat, i ≤ qlo.length ∧ ii = .int .i64 i ∧ Hid (∀ t ∈ qlo, ∃ l' : List TrD, l'.length = t.out.length ∧ Ow wr W1.heap.size 40 9 TrD.enc t.ov l') ∧ Hid (OutsP (fun k => ∃ t ∈ qlo, t.ov.ownBlock = some k) w7 wr)) (fun ii _ => qlo.length - (intOf ii).toNat)
  case atStart => exact ⟨0, Nat.zero_le _, rfl, fun t ht => ⟨t.out, rfl, (HLOW.out t ht).ov.keep HB27.out⟩, OutsP.refl _ _⟩
  case round =>
    obtain ⟨i, hi, rfl, hrows, ho⟩ := hrel
    have HSB : Hid (∀ k, (∃ t ∈ qlo, t.ov.ownBlock = some k) → W1.heap.size ≤ k ∧ k < w2.heap.size) := fun k hk => by
      obtain ⟨t, ht, hv⟩ := hk
      exact (HLOW.out t ht).ov.lt k hv
    have hszr := ho.out.size
    have HQBr : Hid (wr.heap[bq]? = some (.cells #[.string qn, .int .i64 qp, .slice qfa qfr.length qfc, .slice qia qin.length qic, .slice qla qlo.length qlc, .int .i64 q5, .int .i64 q6, .int .i64 q7, .int .i64 q8, .int .i64 q9] 26 (0, 0))) := (ho.out.block bq hbql (fun h => by have := (HSB.out bq h).2; omega)).trans HQB7.out
    have g4 : wr.cell? ⟨bq, 4, none⟩ = some (.slice qla qlo.length qlc) := (cell_of_row wr bq 4 _ _ _ HQBr.out).trans rfl
    have hbqr : bq < wr.heap.size := by omega
    by_cases hlt : i < qlo.length
    · have hmem := mem_getD hlt
      obtain ⟨bl, ol, hqa, hbl, hcl⟩ := qHL.out (by omega)
      have HNB : Hid (∀ k, (∃ t ∈ qlo, t.ov.ownBlock = some k) → k ≠ bl) := fun k hk e => by
        obtain ⟨t, ht, hv⟩ := hk
        have h5 := HQLV.out
        rw [hqa] at h5
        exact ow_ne3 (HLOW.out t ht).ov h5 (by decide) (by rw [hv, e]; rfl) (by rw [hv]; simp)
      subst hqa
      have HC7 : Hid (w7.cell? ⟨bl, ol + i * 7 + 0, none⟩ = some ((qlo.getD i default).enc 0)) := (HB27.out.cell (p := ⟨bl, ol + i * 7 + 0, none⟩) hbl).trans (hcl i hlt 0 (by omega))
      clear hcl
      have HT := Lib.hid (HLOW.out _ hmem)
      generalize hy : qlo.getD i default = y at *
      obtain ⟨yo, ye, y2, y3, y4, y5, y6, yl, ys⟩ := y
      obtain ⟨oa, oc, ho1, yml, -⟩ := sl_open (sl_of_ow HT.out.ov)
      simp only at ho1 yml
      subst ho1
      have hbl7 : bl < w7.heap.size := by omega
      have hi0 : (0 : Int) ≤ (i : Int) := by omega
      have hi1 : (i : Int) < (qlo.length : Int) := by omega
      obtain ⟨wo, rfl⟩ : ∃ wo : World, wo = wr := ⟨_, rfl⟩
      have HHM := Lib.hid hmem
      clear hmem hy
      go_wp2_with fail
      go_loopw [14] (fun jj wr => ∃ j : Nat, j ≤ yl.length ∧ jj = .int .i64 j ∧ Hid (∀ t ∈ qlo, ∃ l' : List TrD, l'.length = t.out.length ∧ Ow wr W1.heap.size 40 9 TrD.enc t.ov l') ∧ Hid (OutsP (fun k => ∃ t ∈ qlo, t.ov.ownBlock = some k) w7 wr)) (fun jj _ => yl.length - (intOf jj).toNat)
      case atStart => exact ⟨0, Nat.zero_le _, rfl, hrows, ho⟩
      case round =>
        clear g4
        obtain ⟨j, hj, rfl, hrows2, ho2⟩ := hrel
        have hszr2 := ho2.out.size
        have HQBr2 : Hid (wr.heap[bq]? = some (.cells #[.string qn, .int .i64 qp, .slice qfa qfr.length qfc, .slice qia qin.length qic, .slice (some ⟨bl, ol, none⟩) qlo.length qlc, .int .i64 q5, .int .i64 q6, .int .i64 q7, .int .i64 q8, .int .i64 q9] 26 (0, 0))) := (ho2.out.block bq hbql (fun h => by have := (HSB.out bq h).2; omega)).trans HQB7.out
        have g4 : wr.cell? ⟨bq, 4, none⟩ = some (.slice (some ⟨bl, ol, none⟩) qlo.length qlc) := (cell_of_row wr bq 4 _ _ _ HQBr2.out).trans rfl
        have hbqr2 : bq < wr.heap.size := by omega
        have hblr2 : bl < wr.heap.size := by omega
        have e0 := (World.cell?_of_block (a := ⟨bl, ol + i * 7 + 0, none⟩) (ho2.out.block bl hbl7 (fun h => HNB.out bl h rfl))).trans HC7.out
        simp only [LoD.enc, Nat.add_zero] at e0
        obtain ⟨l', hl', how⟩ := hrows2.out _ HHM.out
        simp only at hl' how
        by_cases hjl : j < yl.length
        · obtain ⟨b, cap, hform⟩ := ownsRow_form how (by omega)
          rw [hl'] at hform
          injection hform with hf1 hf2 hf3
          subst hf1; subst hf3
          obtain ⟨a2, c2, e2, -, H⟩ := sl_open (sl_of_ow how)
          obtain ⟨b2, o2, e3, hb2, hc⟩ := H.out (by omega)
          rw [e3, hl'] at e2
          injection e2 with e2 _ _
          injection e2 with e2
          injection e2 with e4 e5 _
          subst e4; subst e5
          have hcell := hc j (by omega) 7 (by omega)
          have hfz : wr.frozen? ⟨b, 0 + j * 9 + 7, none⟩ = false := by
            rw [← hl'] at how
            exact World.ownsRow.frozenAt how _
          simp only [TrD.enc] at hcell
          simp only [Nat.zero_add] at hcell hfz
          generalize (l'.getD j default).to = old at *
          have HRW : Hid (∀ t ∈ qlo, ∃ l'' : List TrD, l''.length = t.out.length ∧ Ow (wr.setCell ⟨b, j * 9 + 7, none⟩ (.int .i64 (-9))) W1.heap.size 40 9 TrD.enc t.ov l'') := fun t ht => by
            obtain ⟨l3, hl3, how3⟩ := hrows2.out t ht
            obtain ⟨l4, hl4, how4⟩ := ow_set (b := b) how3 j (-9) rfl
            exact ⟨l4, hl4.trans hl3, how4⟩
          have HOW : Hid (OutsP (fun k => ∃ t ∈ qlo, t.ov.ownBlock = some k) w7 (wr.setCell ⟨b, j * 9 + 7, none⟩ (.int .i64 (-9)))) := ho2.out.setCell (p := ⟨b, j * 9 + 7, none⟩) (.inl ⟨_, HHM.out, rfl⟩) _
          clear hc H how hl'
          have hj0 : (0 : Int) ≤ (j : Int) := by omega
          have hj1 : (j : Int) < (yl.length : Int) := by omega
          go_wp2
          go_roundw
          case rel => exact ⟨j + 1, by omega, by go_num, HRW, HOW⟩
          case measure => simp [intOf]; omega
        · obtain rfl : j = yl.length := by omega
          clear how hl'
          go_wp2
          go_roundw
          case rel => exact ⟨i + 1, by omega, by go_num, hrows2, ho2⟩
          case measure => simp [intOf]; omega
    · obtain rfl : i = qlo.length := by omega
      have hbwr : w.heap.size < wr.heap.size := by omega
      have HPBr : Hid (wr.heap[w.heap.size]? = some (.cells #[.string xn, .int .i64 xp, .slice xfa xfr.length xfc, .slice xia xin.length xic, .slice xla xlo.length xlc, .int .i64 x5, .int .i64 x6, .int .i64 x7, .int .i64 x8, .int .i64 x9] 26 (0, 0))) := (ho.out.block w.heap.size (by omega) (fun h => by have := (HSB.out w.heap.size h).1; omega)).trans HPB7.out
      have s0 : wr.cell? ⟨w.heap.size, 0, none⟩ = some (.string xn) := (cell_of_row wr (w.heap.size) 0 _ _ _ HPBr.out).trans rfl
      have s1 : wr.cell? ⟨w.heap.size, 1, none⟩ = some (.int .i64 xp) := (cell_of_row wr (w.heap.size) 1 _ _ _ HPBr.out).trans rfl
      have s2 : wr.cell? ⟨w.heap.size, 2, none⟩ = some (.slice xfa xfr.length xfc) := (cell_of_row wr (w.heap.size) 2 _ _ _ HPBr.out).trans rfl
      have s3 : wr.cell? ⟨w.heap.size, 3, none⟩ = some (.slice xia xin.length xic) := (cell_of_row wr (w.heap.size) 3 _ _ _ HPBr.out).trans rfl
      have s4 : wr.cell? ⟨w.heap.size, 4, none⟩ = some (.slice xla xlo.length xlc) := (cell_of_row wr (w.heap.size) 4 _ _ _ HPBr.out).trans rfl
      have s5 : wr.cell? ⟨w.heap.size, 5, none⟩ = some (.int .i64 x5) := (cell_of_row wr (w.heap.size) 5 _ _ _ HPBr.out).trans rfl
      have s6 : wr.cell? ⟨w.heap.size, 6, none⟩ = some (.int .i64 x6) := (cell_of_row wr (w.heap.size) 6 _ _ _ HPBr.out).trans rfl
      have s7 : wr.cell? ⟨w.heap.size, 7, none⟩ = some (.int .i64 x7) := (cell_of_row wr (w.heap.size) 7 _ _ _ HPBr.out).trans rfl
      have s8 : wr.cell? ⟨w.heap.size, 8, none⟩ = some (.int .i64 x8) := (cell_of_row wr (w.heap.size) 8 _ _ _ HPBr.out).trans rfl
      have s9 : wr.cell? ⟨w.heap.size, 9, none⟩ = some (.int .i64 x9) := (cell_of_row wr (w.heap.size) 9 _ _ _ HPBr.out).trans rfl
      have HB7r : Hid (Below W1.heap.size w7 wr) := ho.out.below (by omega) (fun k hk => (HSB.out k hk).1)
      have HB1r : Hid (Below w.heap.size w wr) := HB1.out.trans ((HB2.out.mono (by omega)).trans ((HB27.out.mono (by omega)).trans (HB7r.out.mono (by omega))))
      have HMVr : Hid (Ow wr W3.heap.size 3 1 iEnc (.slice ma L.length mc) L) := own_outs HMV7.out ho.out (fun k hk h => by have := (HSB.out k h).2; have := (HMV7.out.lt k hk).1; omega)
      obtain ⟨wo, rfl⟩ : ∃ wo : World, wo = wr := ⟨_, rfl⟩
      go_wp2_with fail
      refine (HA.out wo HB1r.out).mono ?_
      rintro e w8 ⟨q2, nv2, er3, L3, rfl, hsp3, hnv2, hqrd2, -, -, hb8⟩
      obtain ⟨-, rfl, rfl⟩ := HSP.out.alike hsp3
      have HB8 := Lib.hid hb8; have HNV2 := Lib.hid hnv2
      have hz8 := hb8.size
      obtain ⟨q2n, q2p, q2f, q2i, q2l, q25, q26, q27, q28, q29, q2fr, q2in, q2lo⟩ := q2
      obtain ⟨q2fa, q2fc, h1, -, -⟩ := sl_open hqrd2.fv
      obtain ⟨q2ia, q2ic, h2, -, -⟩ := sl_open hqrd2.iv
      obtain ⟨q2la, q2lc, h3, q2ml, q2HL⟩ := sl_open hqrd2.lv
      simp only at h1 h2 h3 q2HL q2ml
      subst h1; subst h2; subst h3
      obtain ⟨na2, nc2, rfl⟩ := hnv2.slice
      clear hsp3 hnv2 hqrd2 hb8
      unfold PrD.val
      simp only
      go_wp2_with fail
      generalize hW9 : World.alloc w8 _ = W9
      have HB9 : Hid (Below w8.heap.size w8 W9) := by rw [← hW9]; exact (Below.refl _ _).alloc (Nat.le_refl _) _
      clear hW9
      refine (ints_any _ _ L L W9 (sl_of_ow (HNV2.out.keep HB9.out)) (sl_of_ow (HMVr.out.keep (HB8.out.trans (HB9.out.mono (by omega)))))).mono ?_
      rw [decide_eq_true (rfl : L = L)]
      rintro e w10 ⟨rfl, hw10⟩
      have HBF : Hid (Below w.heap.size w w10) := HB1r.out.trans ((HB8.out.mono (by omega)).trans ((HB9.out.mono (by omega)).trans (hw10.mono (by have := HB9.out.size; omega))))
      clear hw10
      go_wp2
      go_ret
      exact ⟨rfl, HBF.out⟩
end Go.Proofs.Ytioacgjggogflab

/-
  Contract of good's tables. Conditions: the model is laid as data; the checker's cells.
-/
import Derived.Test.YtblpajbacdbgpaaBE
import Derived.Test.YtblpajbacdbgpaaBC
import Derived.Deep.LoopGhost
namespace Go.Proofs.Ytblpajbacdbgpaa
open Go.ChangeShapes Go.WideShapes Go.ChangeAt Go.RowKit Go.Deep Go.Joins
def tab5 (M : MoD) : Int × Int := if M.procs.length < 1 ∨ 16 < M.procs.length ∨ M.claim < -1 ∨ (M.procs.length : Int) ≤ M.claim ∨ 4096 < M.exprs.length then (3, -1) else exF M M.exprs.length 0 (List.replicate M.exprs.length false)
def tab4 (M : MoD) : Int × Int := match srch (chB M) 0 M.chans.length with
  | some i => (2, (i : Int))
  | none => tab5 M
def tab3 (M : MoD) : Int × Int := match srch (shB M) 0 M.shapes.length with
  | some i => (2, (i : Int))
  | none => tab4 M
theorem tab3_eq {M : MoD} (h1 : ¬ (128 < M.globals.length ∨ M.init.length ≠ M.globals.length)) (h2 : ¬ 0 ≤ typesF M.globals M.init) (h3 : ¬ (32 < M.shapes.length ∨ 32 < M.chans.length)) : tablesF M = tab3 M := by
  unfold tablesF
  rw [if_neg h1, if_neg h2, if_neg h3]
  rfl
theorem tab3_hit {M : MoD} {k : Nat} (h : srch (shB M) 0 M.shapes.length = some k) : tab3 M = (2, (k : Int)) := by unfold tab3; rw [h]
theorem tab3_miss {M : MoD} (h : srch (shB M) 0 M.shapes.length = none) : tab3 M = tab4 M := by unfold tab3; rw [h]
theorem tab4_hit {M : MoD} {k : Nat} (h : srch (chB M) 0 M.chans.length = some k) : tab4 M = (2, (k : Int)) := by unfold tab4; rw [h]
theorem tab4_miss {M : MoD} (h : srch (chB M) 0 M.chans.length = none) : tab4 M = tab5 M := by unfold tab4; rw [h]
def tbV (t : Int × Int) : Value := .tuple #[.int .i64 t.1, .int .i64 t.2]
theorem rett {a b : Value} (h : a = b) : Ending.returned a = Ending.returned b := by rw [h]
set_option maxHeartbeats 4000000 in
set_option maxRecDepth 100000 in
theorem tables_any (M : MoD) (w0 : World) (hM : M.ok w0) (b : Nat) (w : World) (hB : Below w0.heap.size w0 w) (hk : Ck w b M) :
    Calls Try.prog 14 #[.pointer (some ⟨b, 0, none⟩)] w fun e w' => e = .returned (tbV (tablesF M)) ∧ Below w.heap.size w w' := by
  obtain ⟨i4, hi4, hy0, hy1, hy2⟩ := info_parts Try.info4
  have HEX : Hid (∀ (n : Nat) W, n < M.exprs.length → Below w.heap.size w W → Calls Try.prog 21 #[.pointer (some ⟨b, 0, none⟩), .int .i64 n] W fun e w' => e = .returned (.bool (expressionF M n (M.exprs.getD n default))) ∧ Below W.heap.size W w') :=
    fun n W hn hW => expression_any M w0 hM b n W (hB.trans (hW.mono hB.size)) (hk.keep hW) hn
  have HTY : Hid (∀ W, Below w.heap.size w W → M.globals.length = M.init.length → Calls Try.prog 19 #[M.gv, M.iv] W fun e w' => e = .returned (.int .i64 (typesF M.globals M.init)) ∧ Below W.heap.size W w') :=
    fun W hW hl => types_any _ _ _ _ W (hM.gv.keep (hB.trans (hW.mono hB.size))) (hM.iv.keep (hB.trans (hW.mono hB.size))) hl hM.gz
  have hMM := hM
  obtain ⟨hcl, hgv, hgz, hiv, hiq, hiz, hsv, hsq, hsz_, hcv, hcq, hcz, hpv, hpq, hpz, hxv, hxq, hxz⟩ := hMM
  obtain ⟨ag, cg, egv, -, -, -⟩ := hgv
  obtain ⟨ai, ci, eiv, -, -, -⟩ := hiv
  obtain ⟨as_, cs, esv, -, -, hcs⟩ := hsv
  obtain ⟨ac, cc, ecv, -, -, hcc⟩ := hcv
  obtain ⟨ap, cp, epv, -, -, -⟩ := hpv
  obtain ⟨ax, cx, exv, -, -, hcx⟩ := hxv
  obtain ⟨c0, c1, c2, c3, c4, c5, c6⟩ := hk
  have hbl := World.block_lt_of_cell? w _ c0
  simp only at hbl
  rw [egv] at c0 HTY
  rw [eiv] at c1 HTY
  rw [esv] at c2
  rw [ecv] at c3
  rw [epv] at c4
  rw [exv] at c6
  have HCS := Lib.hid hcs
  have HCC := Lib.hid hcc
  have HCX := Lib.hid hcx
  have HSQ := Lib.hid hsq
  have HXQ := Lib.hid hxq
  have HB0 := Lib.hid hB
  have hsz0 := hB.size
  clear egv eiv esv ecv epv exv hcs hcc hcx hsq hxq hcq hpq hiq hcl hM hB
  go_enter Try.func14, Try.ntmps14
  go_upto_region 2 with fail
  generalize hbx : w.alloc (.cells #[.slice ag M.globals.length cg, .slice ai M.init.length ci, .slice as_ M.shapes.length cs, .slice ac M.chans.length cc, .slice ap M.procs.length cp, .int .i64 M.claim, .slice ax M.exprs.length cx] 39) = W0 at *
  have hW0 : Below w.heap.size w W0 := by rw [← hbx]; exact (Below.refl _ _).alloc (Nat.le_refl _) _
  have hz0 : w.heap.size < W0.heap.size := by rw [← hbx]; simp
  have k0 : W0.cell? ⟨w.heap.size, 0, none⟩ = some (.slice ag M.globals.length cg) := by rw [← hbx]; simp [go_sem]
  have k1 : W0.cell? ⟨w.heap.size, 1, none⟩ = some (.slice ai M.init.length ci) := by rw [← hbx]; simp [go_sem]
  have k2 : W0.cell? ⟨w.heap.size, 2, none⟩ = some (.slice as_ M.shapes.length cs) := by rw [← hbx]; simp [go_sem]
  have k3 : W0.cell? ⟨w.heap.size, 3, none⟩ = some (.slice ac M.chans.length cc) := by rw [← hbx]; simp [go_sem]
  have k4 : W0.cell? ⟨w.heap.size, 4, none⟩ = some (.slice ap M.procs.length cp) := by rw [← hbx]; simp [go_sem]
  have k5 : W0.cell? ⟨w.heap.size, 5, none⟩ = some (.int .i64 M.claim) := by rw [← hbx]; simp [go_sem]
  have k6 : W0.cell? ⟨w.heap.size, 6, none⟩ = some (.slice ax M.exprs.length cx) := by rw [← hbx]; simp [go_sem]
  clear hbx c0 c1 c2 c3 c4 c5 c6
  by_cases h1 : 128 < M.globals.length ∨ M.init.length ≠ M.globals.length
  · have HT : Hid (tablesF M = (1, -1)) := by unfold Hid tablesF; rw [if_pos h1]
    by_cases h1a : 128 < M.globals.length
    · go_wp2_with fail
      go_ret2
      exact ⟨rett (by rw [HT.out]; rfl), hW0⟩
    · have h1b : ((M.init.length : Int) != (M.globals.length : Int)) = true := by simp; omega
      have h1c : M.globals.length ≤ 128 := by omega
      clear h1 h1a
      go_wp2_with fail
      all_goals first
        | (go_ret2; exact ⟨rett (by rw [HT.out]; rfl), hW0⟩)
        | (exfalso; simp_all; done)
  have h1c : M.globals.length ≤ 128 := by omega
  have h1d : ((M.init.length : Int) != (M.globals.length : Int)) = false := by simp; omega
  have H1 := Lib.hid h1
  clear h1
  go_wp2_with fail
  (with_reducible refine (HTY.out _ hW0 (by have := H1.out; omega)).mono ?_)
  rintro e w1 ⟨rfl, hB1⟩
  have hD1 : Below W0.heap.size W0 w1 := hB1
  have hE1 : Below w.heap.size w w1 := hW0.trans (hB1.mono hW0.size)
  clear hB1
  have K2 := Lib.hid k2
  have K3 := Lib.hid k3
  have K4 := Lib.hid k4
  have K5 := Lib.hid k5
  have K6 := Lib.hid k6
  have r2 := (hD1.cell (p := ⟨w.heap.size, 2, none⟩) hz0).trans k2
  have r3 := (hD1.cell (p := ⟨w.heap.size, 3, none⟩) hz0).trans k3
  clear k0 k1 k2 k3 k4 k5 k6
  by_cases h2 : 0 ≤ typesF M.globals M.init
  · have HT : Hid (tablesF M = (1, typesF M.globals M.init)) := by unfold Hid tablesF; rw [if_neg H1.out, if_pos h2]
    go_wp2_with fail
    go_ret2
    exact ⟨rett (by rw [HT.out]; rfl), hE1⟩
  have h2b : typesF M.globals M.init < 0 := by omega
  have H2 := Lib.hid h2
  clear h2
  by_cases h3 : 32 < M.shapes.length ∨ 32 < M.chans.length
  · have HT : Hid (tablesF M = (2, -1)) := by unfold Hid tablesF; rw [if_neg H1.out, if_neg H2.out, if_pos h3]
    by_cases h3a : 32 < M.shapes.length
    · go_wp2_with fail
      go_ret2
      exact ⟨rett (by rw [HT.out]; rfl), hE1⟩
    · have h3b : 32 < M.chans.length := by omega
      have h3c : M.shapes.length ≤ 32 := by omega
      clear h3 h3a
      go_wp2_with fail
      go_ret2
      exact ⟨rett (by rw [HT.out]; rfl), hE1⟩
  have h3a : M.shapes.length ≤ 32 := by omega
  have h3b : M.chans.length ≤ 32 := by omega
  have hq1 : decide (128 < M.globals.length) = false := by simp; omega
  have hq2 : decide (32 < M.shapes.length) = false := by simp; omega
  have hq3 : decide (32 < M.chans.length) = false := by simp; omega
  have HT3 := Lib.hid (tab3_eq H1.out H2.out h3)
  clear h3 H1 H2
  generalize typesF M.globals M.init = ty at *
  have hq4 : decide (0 ≤ ty) = false := by simp; omega
  go_wp2_with fail
  go_loopg [52] M.shapes.length (fun gg i wr => ∃ k : Nat, k ≤ M.shapes.length ∧ gg = M.shapes.length - k ∧ i = .int .i64 k ∧ Below W0.heap.size W0 wr ∧ Hid (srch (shB M) 0 M.shapes.length = srch (shB M) k (M.shapes.length - k)))
  case atStart => exact ⟨0, Nat.zero_le _, by omega, rfl, hD1, rfl⟩
  case round =>
    obtain ⟨k, hk, rfl, rfl, hD, hS⟩ := hrel
    have hDw : Below w.heap.size w wr := hW0.trans (hD.mono hW0.size)
    have hDz := hDw.size
    have hDz2 := hD.size
    by_cases hlt : k < M.shapes.length
    · obtain ⟨bs, offs, rfl, hbs, hcs⟩ := HCS.out (by omega)
      have hD0 : Below w0.heap.size w0 wr := HB0.out.trans (hDw.mono hsz0)
      have d0 := (hD0.cell (p := ⟨bs, offs + k * 2 + 0, none⟩) hbs).trans (hcs k hlt 0 (by omega))
      have d1 := (hD0.cell (p := ⟨bs, offs + k * 2 + 1, none⟩) hbs).trans (hcs k hlt 1 (by omega))
      simp only [ShD.enc, Nat.add_zero] at d0 d1
      have hso := HSQ.out _ (getD_mem hlt)
      have HSB : Hid (shB M k = !shapeF (M.shapes.getD k default)) := rfl
      clear hcs
      generalize M.shapes.getD k default = s at *
      have hsok : ∀ o, ShD.ok (wr.alloc o) s := fun o => ⟨hso.1, hso.2.1.keep (hD0.alloc hD0.size o), hso.2.2⟩
      obtain ⟨-, ⟨af, cf, hvf, -, -, -⟩, -⟩ := hso
      rw [hvf] at d1
      have HSH : Hid (∀ o, Calls Try.prog 20 #[.agg #[.int .i64 s.room, .slice af s.fields.length cf]] (wr.alloc o) fun e w' => e = .returned (.bool (shapeF s)) ∧ Below (wr.alloc o).heap.size (wr.alloc o) w') := by
        intro o
        have := shape_any s _ (hsok o)
        rw [hvf] at this
        exact this
      clear hvf hsok hD0
      cases ht : shapeF s
      · have HN := Lib.hid (hS.out.trans (srch_hit (p := shB M) hlt (by rw [HSB.out, ht]; rfl)))
        have HT : Hid (tablesF M = (2, (k : Int))) := HT3.out.trans (tab3_hit HN.out)
        go_wp2_with fail
        (with_reducible refine (HSH.out _).mono ?_)
        rintro e w2 ⟨rfl, hB2⟩
        rw [ht]
        have hE2 : Below w.heap.size w w2 := (hDw.alloc hDz _).trans (hB2.mono (by simp; omega))
        clear hB2 ht
        go_wp2_with fail
        go_ret2
        exact ⟨rett (by rw [HT.out]; rfl), hE2⟩
      · have HN := Lib.hid (hS.out.trans (srch_miss (p := shB M) hlt (by rw [HSB.out, ht]; rfl)))
        go_wp2_with fail
        (with_reducible refine (HSH.out _).mono ?_)
        rintro e w2 ⟨rfl, hB2⟩
        rw [ht]
        have hE2 : Below W0.heap.size W0 w2 := (hD.alloc hDz2 _).trans (hB2.mono (by simp; omega))
        clear hB2 ht
        go_wp2_with fail
        go_roundg (M.shapes.length - (k + 1))
        case measure => omega
        case rel => exact ⟨k + 1, by omega, rfl, by go_num, hE2, HN⟩
    · have HS1 : Hid (srch (shB M) 0 M.shapes.length = none) := hS.out.trans (srch_end (by omega))
      have r2 := (hD.cell (p := ⟨w.heap.size, 2, none⟩) hz0).trans K2.out
      have r3 := (hD.cell (p := ⟨w.heap.size, 3, none⟩) hz0).trans K3.out
      have HT4 : Hid (tablesF M = tab4 M) := HT3.out.trans (tab3_miss HS1.out)
      clear HT3 hS HS1
      go_wp2_with fail
      go_loopg [65] M.chans.length (fun gg i wr => ∃ k : Nat, k ≤ M.chans.length ∧ gg = M.chans.length - k ∧ i = .int .i64 k ∧ Below W0.heap.size W0 wr ∧ Hid (srch (chB M) 0 M.chans.length = srch (chB M) k (M.chans.length - k)))
      case atStart => exact ⟨0, Nat.zero_le _, by omega, rfl, hD, rfl⟩
      case round =>
        obtain ⟨k, hk, rfl, rfl, hD, hS⟩ := hrel
        have hDw : Below w.heap.size w wr := hW0.trans (hD.mono hW0.size)
        have hDz := hDw.size
        have hDz2 := hD.size
        by_cases hlt : k < M.chans.length
        · obtain ⟨bc, offc, rfl, hbc, hcc⟩ := HCC.out (by omega)
          have hD0 : Below w0.heap.size w0 wr := HB0.out.trans (hDw.mono hsz0)
          have d0 := (hD0.cell (p := ⟨bc, offc + k * 1 + 0, none⟩) hbc).trans (hcc k hlt 0 (by omega))
          have r2 := (hD.cell (p := ⟨w.heap.size, 2, none⟩) hz0).trans K2.out
          simp only [iEnc, Nat.mul_one, Nat.add_zero] at d0
          have HSB : Hid (chB M k = !inB M.shapes.length (M.chans.getD k default)) := rfl
          clear hcc hD0
          generalize M.chans.getD k default = q at *
          by_cases hq : 0 ≤ q ∧ q < M.shapes.length
          · have HN := Lib.hid (hS.out.trans (srch_miss (p := chB M) hlt (by rw [HSB.out]; unfold inB; simp; omega)))
            obtain ⟨hqa, hqb⟩ := hq
            go_wp2_with fail
            go_roundg (M.chans.length - (k + 1))
            case measure => omega
            case rel => exact ⟨k + 1, by omega, rfl, by go_num, hD, HN⟩
          · have HN := Lib.hid (hS.out.trans (srch_hit (p := chB M) hlt (by rw [HSB.out]; unfold inB; simp; omega)))
            have HT : Hid (tablesF M = (2, (k : Int))) := HT4.out.trans (tab4_hit HN.out)
            by_cases hqa : q < 0
            · go_wp2_with fail
              go_ret2
              exact ⟨rett (by rw [HT.out]; rfl), hDw⟩
            · have hqb : (M.shapes.length : Int) ≤ q := by omega
              go_wp2_with fail
              go_ret2
              exact ⟨rett (by rw [HT.out]; rfl), hDw⟩
        · have HS1 : Hid (srch (chB M) 0 M.chans.length = none) := hS.out.trans (srch_end (by omega))
          have HT5 : Hid (tablesF M = tab5 M) := HT4.out.trans (tab4_miss HS1.out)
          have r4 := (hD.cell (p := ⟨w.heap.size, 4, none⟩) hz0).trans K4.out
          have r5 := (hD.cell (p := ⟨w.heap.size, 5, none⟩) hz0).trans K5.out
          have r6 := (hD.cell (p := ⟨w.heap.size, 6, none⟩) hz0).trans K6.out
          clear HT4 hS HS1
          by_cases h5 : M.procs.length < 1 ∨ 16 < M.procs.length ∨ M.claim < -1 ∨ (M.procs.length : Int) ≤ M.claim ∨ 4096 < M.exprs.length
          · have HT : Hid (tablesF M = (3, -1)) := by unfold Hid; rw [HT5.out]; unfold tab5; rw [if_pos h5]
            have h5' : M.procs.length < 1 ∨ (1 ≤ M.procs.length ∧ 16 < M.procs.length) ∨ (1 ≤ M.procs.length ∧ M.procs.length ≤ 16 ∧ M.claim < -1) ∨ (1 ≤ M.procs.length ∧ M.procs.length ≤ 16 ∧ -1 ≤ M.claim ∧ (M.procs.length : Int) ≤ M.claim) ∨ (1 ≤ M.procs.length ∧ M.procs.length ≤ 16 ∧ -1 ≤ M.claim ∧ M.claim < M.procs.length ∧ 4096 < M.exprs.length) := by omega
            clear h5
            rcases h5' with g | ⟨g1, g⟩ | ⟨g1, g2, g⟩ | ⟨g1, g2, g3, g⟩ | ⟨g1, g2, g3, g4, g⟩
            all_goals
              go_wp2_with fail
              all_goals first
                | (go_ret2; exact ⟨rett (by rw [HT.out]; rfl), hDw⟩)
                | (exfalso; simp_all; done)
          · have HT6 : Hid (tablesF M = exF M M.exprs.length 0 (List.replicate M.exprs.length false)) := by unfold Hid; rw [HT5.out]; unfold tab5; rw [if_neg h5]
            have g1 : 1 ≤ M.procs.length := by omega
            have g2 : M.procs.length ≤ 16 := by omega
            have g3 : -1 ≤ M.claim := by omega
            have g4 : M.claim < M.procs.length := by omega
            have g5 : M.exprs.length ≤ 4096 := by omega
            clear h5 HT5
            go_upto_region 23 with fail
            go_wp2_with (with_reducible refine wpList_make_full _ rfl (.tmp 112) (.tmp 112) 65 rfl wr.heap.size 4 i4 (.bool false) 1 Try.underlying65 hi4 hy0 hy1 .i64 .i64 M.exprs.length M.exprs.length M.exprs.length rfl rfl rfl rfl (by rw [hy2]; omega) (by unfold maxLen; omega) (Nat.le_refl _) ?_)
            intro wm hmade hgm
            have HS0 := Lib.hid (seen_made (w := wr) (by rw [Nat.mul_one]; exact hmade))
            have hBm : Below wr.heap.size wr wm := (Below.refl _ _).grown hgm (Nat.le_refl _) (fun k hk => by cases hk)
            clear hmade hgm r4 r5 r6
            have hzq : w.heap.size < wr.heap.size := Nat.lt_of_lt_of_le hz0 hDz2
            have K6q : Hid (wr.cell? ⟨w.heap.size, 6, none⟩ = some (.slice ax M.exprs.length cx)) := (hD.cell (p := ⟨w.heap.size, 6, none⟩) hz0).trans K6.out
            have r6' := (hBm.cell (p := ⟨w.heap.size, 6, none⟩) hzq).trans K6q.out
            generalize wr = wq at *
            go_wp2_with fail
            clear r6'
            go_loopg [117] M.exprs.length (fun gg i wx => ∃ (k : Nat) (had : List Bool), k ≤ M.exprs.length ∧ gg = M.exprs.length - k ∧ i = .int .i64 k ∧ had.length = M.exprs.length ∧ Hid (SeenAt wx wq.heap.size had) ∧ Below wq.heap.size wq wx ∧ Hid (tablesF M = exF M (M.exprs.length - k) k had))
            case atStart => exact ⟨0, _, Nat.zero_le _, by omega, rfl, by simp, HS0, hBm, HT6⟩
            case round =>
              obtain ⟨k, had, hk, rfl, rfl, hhl, HS, hE, HT7⟩ := hrel
              have hEw : Below w.heap.size w wr := hDw.trans (hE.mono hDz)
              have hEz := hE.size
              have r6 := (hE.cell (p := ⟨w.heap.size, 6, none⟩) hzq).trans K6q.out
              by_cases hlt : k < M.exprs.length
              · have hfu : M.exprs.length - k = (M.exprs.length - (k + 1)) + 1 := by omega
                have HST : Hid (tablesF M = if expressionF M k (M.exprs.getD k default) = true then (match hadF had (heldF (M.exprs.getD k default)) with | some had' => exF M (M.exprs.length - (k + 1)) (k + 1) had' | none => (3, (k : Int))) else (3, (k : Int))) := by
                  unfold Hid
                  rw [HT7.out, hfu]
                  rfl
                have HEK := Lib.hid (HEX.out k)
                obtain ⟨bx, offx, rfl, hbx, hcx⟩ := HCX.out (by omega)
                have hE0 : Below w0.heap.size w0 wr := HB0.out.trans (hEw.mono hsz0)
                have f0 := (hE0.cell (p := ⟨bx, offx + k * 12 + 0, none⟩) hbx).trans (hcx k hlt 0 (by omega))
                have f1 := (hE0.cell (p := ⟨bx, offx + k * 12 + 1, none⟩) hbx).trans (hcx k hlt 1 (by omega))
                have f2 := (hE0.cell (p := ⟨bx, offx + k * 12 + 2, none⟩) hbx).trans (hcx k hlt 2 (by omega))
                have f3 := (hE0.cell (p := ⟨bx, offx + k * 12 + 3, none⟩) hbx).trans (hcx k hlt 3 (by omega))
                have f4 := (hE0.cell (p := ⟨bx, offx + k * 12 + 4, none⟩) hbx).trans (hcx k hlt 4 (by omega))
                have f5 := (hE0.cell (p := ⟨bx, offx + k * 12 + 5, none⟩) hbx).trans (hcx k hlt 5 (by omega))
                have f6 := (hE0.cell (p := ⟨bx, offx + k * 12 + 6, none⟩) hbx).trans (hcx k hlt 6 (by omega))
                have f7 := (hE0.cell (p := ⟨bx, offx + k * 12 + 7, none⟩) hbx).trans (hcx k hlt 7 (by omega))
                have f8 := (hE0.cell (p := ⟨bx, offx + k * 12 + 8, none⟩) hbx).trans (hcx k hlt 8 (by omega))
                have f9 := (hE0.cell (p := ⟨bx, offx + k * 12 + 9, none⟩) hbx).trans (hcx k hlt 9 (by omega))
                have f10 := (hE0.cell (p := ⟨bx, offx + k * 12 + 10, none⟩) hbx).trans (hcx k hlt 10 (by omega))
                have f11 := (hE0.cell (p := ⟨bx, offx + k * 12 + 11, none⟩) hbx).trans (hcx k hlt 11 (by omega))
                simp only [ExD.enc, Nat.add_zero] at f0 f1 f2 f3 f4 f5 f6 f7 f8 f9 f10 f11
                have hxo := HXQ.out _ (getD_mem hlt)
                have i1 : (0 : Int) ≤ k := by omega
                have i2 : (k : Int) < M.exprs.length := by omega
                clear hcx hfu HT7 hE0
                generalize M.exprs.getD k default = x at *
                cases he : expressionF M k x
                · have HT : Hid (tablesF M = (3, (k : Int))) := by unfold Hid; rw [HST.out, he, if_neg (by simp)]
                  clear f0 f1 f2 f3 f4 f5 f6 f7 f8 f9 f10 f11 hxo
                  go_wp2_with fail
                  (with_reducible refine (HEK.out _ hlt hEw).mono ?_)
                  rintro e w2 ⟨rfl, hB2⟩
                  rw [he]
                  have hE2 : Below w.heap.size w w2 := hEw.trans (hB2.mono hEw.size)
                  clear hB2 he
                  go_wp2_with fail
                  go_ret2
                  exact ⟨rett (by rw [HT.out]; rfl), hE2⟩
                · have HHB := Lib.hid (held_below he)
                  have HST2 : Hid (tablesF M = match hadF had (heldF x) with | some had' => exF M (M.exprs.length - (k + 1)) (k + 1) had' | none => (3, (k : Int))) := by
                    unfold Hid
                    rw [HST.out, he, if_pos rfl]
                  have HHE : Hid (∀ W, Below w.heap.size w W → Calls Try.prog 22 #[x.val'] W (HeldPost x W)) := fun W hW => held_any x w0 W hxo (HB0.out.trans (hW.mono hsz0))
                  have HLEN := Lib.hid (held_len x hxo.az hxo.dz)
                  obtain ⟨ad, cd, hvd, -, -, -⟩ := hxo.dv
                  obtain ⟨aa, ca, hva, -, -, -⟩ := hxo.av
                  obtain ⟨am, cm, hvm, -, -, -⟩ := hxo.mv
                  rw [hvd] at f9
                  rw [hva] at f10
                  rw [hvm] at f11
                  unfold ExD.val' at HHE
                  rw [hvd, hva, hvm] at HHE
                  clear hvd hva hvm hxo HST
                  go_wp2_with fail
                  (with_reducible refine (HEK.out _ hlt hEw).mono ?_)
                  rintro e w2 ⟨rfl, hB2⟩
                  rw [he]
                  clear he
                  have hE2 : Below w.heap.size w w2 := hEw.trans (hB2.mono hEw.size)
                  have hF2 : Below wq.heap.size wq w2 := hE.trans (hB2.mono hEz)
                  have HS2 : Hid (SeenAt w2 wq.heap.size had) := (hB2.block _ HS.out.lt).trans HS.out
                  have g0 := (hB2.cell (p := ⟨bx, offx + k * 12, none⟩) (Nat.lt_of_lt_of_le hbx (Nat.le_trans hsz0 hEw.size))).trans f0
                  have g1 := (hB2.cell (p := ⟨bx, offx + k * 12 + 1, none⟩) (Nat.lt_of_lt_of_le hbx (Nat.le_trans hsz0 hEw.size))).trans f1
                  have g2 := (hB2.cell (p := ⟨bx, offx + k * 12 + 2, none⟩) (Nat.lt_of_lt_of_le hbx (Nat.le_trans hsz0 hEw.size))).trans f2
                  have g3 := (hB2.cell (p := ⟨bx, offx + k * 12 + 3, none⟩) (Nat.lt_of_lt_of_le hbx (Nat.le_trans hsz0 hEw.size))).trans f3
                  have g4 := (hB2.cell (p := ⟨bx, offx + k * 12 + 4, none⟩) (Nat.lt_of_lt_of_le hbx (Nat.le_trans hsz0 hEw.size))).trans f4
                  have g5 := (hB2.cell (p := ⟨bx, offx + k * 12 + 5, none⟩) (Nat.lt_of_lt_of_le hbx (Nat.le_trans hsz0 hEw.size))).trans f5
                  have g6 := (hB2.cell (p := ⟨bx, offx + k * 12 + 6, none⟩) (Nat.lt_of_lt_of_le hbx (Nat.le_trans hsz0 hEw.size))).trans f6
                  have g7 := (hB2.cell (p := ⟨bx, offx + k * 12 + 7, none⟩) (Nat.lt_of_lt_of_le hbx (Nat.le_trans hsz0 hEw.size))).trans f7
                  have g8 := (hB2.cell (p := ⟨bx, offx + k * 12 + 8, none⟩) (Nat.lt_of_lt_of_le hbx (Nat.le_trans hsz0 hEw.size))).trans f8
                  have g9 := (hB2.cell (p := ⟨bx, offx + k * 12 + 9, none⟩) (Nat.lt_of_lt_of_le hbx (Nat.le_trans hsz0 hEw.size))).trans f9
                  have g10 := (hB2.cell (p := ⟨bx, offx + k * 12 + 10, none⟩) (Nat.lt_of_lt_of_le hbx (Nat.le_trans hsz0 hEw.size))).trans f10
                  have g11 := (hB2.cell (p := ⟨bx, offx + k * 12 + 11, none⟩) (Nat.lt_of_lt_of_le hbx (Nat.le_trans hsz0 hEw.size))).trans f11
                  have r6b := (hF2.cell (p := ⟨w.heap.size, 6, none⟩) hzq).trans K6q.out
                  clear hB2 f0 f1 f2 f3 f4 f5 f6 f7 f8 f9 f10 f11 r6
                  go_wp2_with fail
                  (with_reducible refine (HHE.out _ hE2).mono ?_)
                  rintro e w3 ⟨v3, rfl, hown3, hB3⟩
                  have hE3 : Below w.heap.size w w3 := hE2.trans (hB3.mono hE2.size)
                  have hF3 : Below wq.heap.size wq w3 := hF2.trans (hB3.mono hF2.size)
                  have HS3 : Hid (SeenAt w3 wq.heap.size had) := (hB3.block _ HS2.out.lt).trans HS2.out
                  have HO3 : Hid (Own (wq.heap.size + 1) w3 v3 (heldF x)) := own_mono hown3 HS2.out.lt
                  clear hown3 hB3 HS HS2 g0 g1 g2 g3 g4 g5 g6 g7 g8 g9 g10 g11 r6b
                  have hlen := HLEN.out
                  obtain ⟨a3, c3, rfl⟩ := own_shape HO3.out
                  generalize heldF x = l at *
                  go_wp2_with fail
                  go_loopg [132] l.length (fun gg i wx => ∃ (j : Nat) (had2 : List Bool), j ≤ l.length ∧ gg = l.length - j ∧ i = .int .i64 j ∧ had2.length = M.exprs.length ∧ Hid (SeenAt wx wq.heap.size had2) ∧ Hid (Own (wq.heap.size + 1) wx (.slice a3 l.length c3) l) ∧ Below wq.heap.size wq wx ∧ Hid (hadF had l = hadF had2 (l.drop j)))
                  case atStart => exact ⟨0, had, Nat.zero_le _, by omega, rfl, hhl, HS3, HO3, hF3, rfl⟩
                  case round =>
                    obtain ⟨j, had2, hj, rfl, rfl, hhl2, HS4, HO4, hF4, HH⟩ := hrel
                    have hF4w : Below w.heap.size w wr := hDw.trans (hF4.mono hDz)
                    by_cases hlt2 : j < l.length
                    · have hpb := HHB.out _ (getD_mem hlt2)
                      simp only [inB, decide_eq_true_eq] at hpb
                      obtain ⟨_, _, e0, -, -, hcl⟩ := own_sl HO4.out
                      obtain ⟨bl, offl, e1, hbl2, hcl⟩ := hcl (by omega)
                      have d0 := hcl j hlt2 0 (by omega)
                      simp only [Value.slice.injEq] at e0
                      obtain ⟨e2, -, -⟩ := e0
                      rw [← e2] at e1
                      subst e1
                      simp only [iEnc, Nat.mul_one, Nat.add_zero] at d0
                      have HDR : Hid (l.drop j = l.getD j default :: l.drop (j + 1)) := by
                        unfold Hid
                        rw [List.drop_eq_getElem_cons hlt2]
                        simp [List.getD_eq_getElem?_getD, hlt2]
                      clear hcl e2
                      generalize l.getD j default = p at *
                      obtain ⟨pn, rfl⟩ := Int.eq_ofNat_of_zero_le hpb.1
                      have hpn : pn < had2.length := by omega
                      have g0 := HS4.out.cell hpn
                      have gf := HS4.out.free pn
                      have i3 : (0 : Int) ≤ pn := by omega
                      have i4' : (pn : Int) < M.exprs.length := by omega
                      have i5 : (0 : Int) ≤ j := by omega
                      have i6 : (j : Int) < l.length := by omega
                      have HHS : Hid (hadF had l = if had2.getD pn false = true then none else hadF (had2.set pn true) (l.drop (j + 1))) := by
                        unfold Hid
                        rw [HH.out, HDR.out]
                        rfl
                      clear hpb
                      cases hp : had2.getD pn false
                      · rw [hp] at g0
                        have HN : Hid (hadF had l = hadF (had2.set pn true) (l.drop (j + 1))) := by unfold Hid; rw [HHS.out, hp, if_neg (by simp)]
                        have hS5 := HS4.out.set pn
                        have hO5 : Own (wq.heap.size + 1) (wr.setCell ⟨wq.heap.size, pn, none⟩ (.bool true)) (.slice (some ⟨bl, offl, none⟩) l.length c3) l := World.ownsRow.kept HO4.out (grown_setCell _ _ _ _) (.inr (by intro h; have := (HO4.out.lt _ h).1; omega))
                        have hF5 : Below wq.heap.size wq (wr.setCell ⟨wq.heap.size, pn, none⟩ (.bool true)) := hF4.setCell (Nat.le_refl _) _
                        have HS5 := Lib.hid hS5
                        have HO5 := Lib.hid hO5
                        clear hp hS5 hO5
                        go_wp2_with fail
                        go_roundg (l.length - (j + 1))
                        case measure => omega
                        case rel => exact ⟨j + 1, had2.set pn true, by omega, rfl, by go_num, by rw [List.length_set]; exact hhl2, HS5, HO5, hF5, HN⟩
                      · rw [hp] at g0
                        have HT : Hid (tablesF M = (3, (k : Int))) := by unfold Hid; rw [HST2.out, HHS.out, hp, if_pos rfl]
                        clear hp
                        go_wp2_with fail
                        go_ret2
                        exact ⟨rett (by rw [HT.out]; rfl), hF4w⟩
                    · have HN : Hid (tablesF M = exF M (M.exprs.length - (k + 1)) (k + 1) had2) := by
                        unfold Hid
                        rw [HST2.out, HH.out, List.drop_of_length_le (by omega)]
                        rfl
                      go_wp2_with fail
                      go_roundg (M.exprs.length - (k + 1))
                      case measure => omega
                      case rel => exact ⟨k + 1, had2, by omega, rfl, by go_num, hhl2, HS4, hF4, HN⟩
              · have HT : Hid (tablesF M = (0, 0)) := by
                  unfold Hid
                  rw [HT7.out, show M.exprs.length - k = 0 by omega]
                  rfl
                go_wp2_with fail
                go_ret2
                exact ⟨rett (by rw [HT.out]; rfl), hEw⟩
end Go.Proofs.Ytblpajbacdbgpaa

/-
  Contract of good's proc. Conditions: the model is laid as data; its expressions may be; the place is one.
-/
import Derived.Test.YtblpajbacdbgpaaBC
import Derived.Deep.LoopGhost
namespace Go.Proofs.Ytblpajbacdbgpaa
open Go.ChangeShapes Go.WideShapes Go.ChangeAt Go.RowKit Go.Deep Go.Joins
noncomputable def wayB (M : MoD) (i : Int) (y : EsD) : Bool := y.l.all (wayF M i)
noncomputable def locB (M : MoD) (i : Int) (l : LoD) : Bool := (waysL l).all (wayB M i)
noncomputable def procB (M : MoD) (i : Int) (p : PrD) : Bool := p.locs.all (locB M i) && (decide (p.provided < 0) || usesW M i (-1) [p.provided])
set_option maxHeartbeats 4000000 in
set_option maxRecDepth 100000 in
theorem proc_any (M : MoD) (w0 : World) (hM : M.ok w0) (b n : Nat) (w : World) (hB : Below w0.heap.size w0 w) (hk : Ck w b M) (hX : GoodX M) (hn : n < M.procs.length) (hpr : (M.procs.getD n default).provided < M.exprs.length) :
    Calls Try.prog 18 #[.pointer (some ⟨b, 0, none⟩), .int .i64 n] w fun e w' => e = .returned (.bool (procB M n (M.procs.getD n default))) ∧ Below w.heap.size w w' := by
  have hp := hM.procs _ (getD_mem hn)
  have HWY : Hid (∀ (x : TrD) W, x.ok w0 → Below w.heap.size w W → Calls Try.prog 24 #[.pointer (some ⟨b, 0, none⟩), .int .i64 n, x.st] W fun e w' => e = .returned (.bool (wayF M n x)) ∧ Below W.heap.size W w') :=
    fun x W hx hW => way_any M w0 hM b n x W (hB.trans (hW.mono hB.size)) (hk.keep hW) hX (by omega) hx
  have HUS : Hid (∀ W lv l run, Below w.heap.size w W → Sl W 1 iEnc lv l → Sn lv → l.length ≤ 1048579 → (∀ k ∈ l, inB M.exprs.length k = true) → Calls Try.prog 25 #[.pointer (some ⟨b, 0, none⟩), .int .i64 n, lv, .int .i64 run] W fun e w' => e = .returned (.bool (usesW M n run l)) ∧ Below W.heap.size W w') :=
    fun W lv l run hW hl hs hz hin => uses_any M w0 hM b n run lv l W (hB.trans (hW.mono hB.size)) (hk.keep hW) hX (by omega) hl hs hz hin
  obtain ⟨ap, cp, hpv, -, -, hcp⟩ := hM.pv
  have c4 := hk.c4
  rw [hpv] at c4
  have hbl := hk.lt
  have hpz := hM.pz
  obtain ⟨bp, offp, rfl, hbp, hcp⟩ := hcp (by omega)
  have f0 := (hB.cell (p := ⟨bp, offp + n * 10 + 0, none⟩) hbp).trans (hcp n hn 0 (by omega))
  have f1 := (hB.cell (p := ⟨bp, offp + n * 10 + 1, none⟩) hbp).trans (hcp n hn 1 (by omega))
  have f2 := (hB.cell (p := ⟨bp, offp + n * 10 + 2, none⟩) hbp).trans (hcp n hn 2 (by omega))
  have f3 := (hB.cell (p := ⟨bp, offp + n * 10 + 3, none⟩) hbp).trans (hcp n hn 3 (by omega))
  have f4 := (hB.cell (p := ⟨bp, offp + n * 10 + 4, none⟩) hbp).trans (hcp n hn 4 (by omega))
  have f5 := (hB.cell (p := ⟨bp, offp + n * 10 + 5, none⟩) hbp).trans (hcp n hn 5 (by omega))
  have f6 := (hB.cell (p := ⟨bp, offp + n * 10 + 6, none⟩) hbp).trans (hcp n hn 6 (by omega))
  have f7 := (hB.cell (p := ⟨bp, offp + n * 10 + 7, none⟩) hbp).trans (hcp n hn 7 (by omega))
  have f8 := (hB.cell (p := ⟨bp, offp + n * 10 + 8, none⟩) hbp).trans (hcp n hn 8 (by omega))
  have f9 := (hB.cell (p := ⟨bp, offp + n * 10 + 9, none⟩) hbp).trans (hcp n hn 9 (by omega))
  simp only [PrD.enc, Nat.add_zero] at f0 f1 f2 f3 f4 f5 f6 f7 f8 f9
  have HB0 := Lib.hid hB
  have hsz0 := hB.size
  clear hcp hpv hM hk hX hB
  generalize M.procs.getD n default = p at *
  obtain ⟨-, -, -, -, -, -, hf, -, hin, -, -, hl, hlq, hlz⟩ := hp
  obtain ⟨af, capf, hvf, -, -, -⟩ := hf
  obtain ⟨ai, capi, hvi, -, -, -⟩ := hin
  obtain ⟨al, capl, hvl, -, -, hcell⟩ := hl
  rw [hvf] at f2
  rw [hvi] at f3
  rw [hvl] at f4
  clear hvf hvi hvl
  have HC := Lib.hid hcell; clear hcell
  have HQ := Lib.hid hlq; clear hlq
  have hn2 : (0 : Int) ≤ n := by omega
  have hn3 : (n : Int) < M.procs.length := by omega
  go_enter Try.func18, Try.ntmps18
  go_wp2_with fail
  generalize hbx : w.alloc (.cells #[.string p.name, .int .i64 p.params, .slice af p.frame.length capf, .slice ai p.init.length capi, .slice al p.locs.length capl, .int .i64 p.start, .int .i64 p.final, .int .i64 p.active, .int .i64 p.prio, .int .i64 p.provided] 47) = W0 at *
  have hW0 : Below w.heap.size w W0 := by rw [← hbx]; exact (Below.refl _ _).alloc (Nat.le_refl _) _
  have hz0 : W0.heap.size = w.heap.size + 1 := by rw [← hbx]; simp
  have k9 : W0.cell? ⟨w.heap.size, 9, none⟩ = some (.int .i64 p.provided) := by rw [← hbx]; simp [go_sem]
  clear hbx
  have HZ := Lib.hid hz0; clear hz0
  have HK9 := Lib.hid k9
  clear k9 f0 f1 f2 f3 f4 f5 f6 f7 f8 f9 c4
  go_loopg [23] p.locs.length (fun gg i wr => ∃ k : Nat, k ≤ p.locs.length ∧ gg = p.locs.length - k ∧ i = .int .i64 k ∧ Below W0.heap.size W0 wr ∧ Hid ((p.locs.take k).all (locB M n) = true))
  case atStart => exact ⟨0, Nat.zero_le _, by omega, rfl, Below.refl _ _, rfl⟩
  case round =>
    obtain ⟨k, hk, rfl, rfl, hB, hS⟩ := hrel
    have hBw : Below w.heap.size w wr := hW0.trans (hB.mono (by have := HZ.out; omega))
    have hsz := hBw.size
    have hszB := hB.size
    by_cases hlt : k < p.locs.length
    · obtain ⟨bb, off, rfl, hbs, hc⟩ := HC.out (by omega)
      have hBw0 : Below w0.heap.size w0 wr := HB0.out.trans (hBw.mono hsz0)
      have c0 := (hBw0.cell (p := ⟨bb, off + k * 7 + 0, none⟩) hbs).trans (hc k hlt 0 (by omega))
      have c1 := (hBw0.cell (p := ⟨bb, off + k * 7 + 1, none⟩) hbs).trans (hc k hlt 1 (by omega))
      have c2 := (hBw0.cell (p := ⟨bb, off + k * 7 + 2, none⟩) hbs).trans (hc k hlt 2 (by omega))
      have c3 := (hBw0.cell (p := ⟨bb, off + k * 7 + 3, none⟩) hbs).trans (hc k hlt 3 (by omega))
      have c4 := (hBw0.cell (p := ⟨bb, off + k * 7 + 4, none⟩) hbs).trans (hc k hlt 4 (by omega))
      have c5 := (hBw0.cell (p := ⟨bb, off + k * 7 + 5, none⟩) hbs).trans (hc k hlt 5 (by omega))
      have c6 := (hBw0.cell (p := ⟨bb, off + k * 7 + 6, none⟩) hbs).trans (hc k hlt 6 (by omega))
      simp only [LoD.enc, Nat.add_zero] at c0 c1 c2 c3 c4 c5 c6
      clear hc
      have HOK := Lib.hid (HQ.out _ (getD_mem hlt))
      have HS := Lib.hid (all_step hS.out hlt)
      have HF := Lib.hid (all_fail (p := locB M n) hlt)
      have HLB : Hid (locB M n (p.locs.getD k default) = (waysL (p.locs.getD k default)).all (wayB M n)) := rfl
      generalize p.locs.getD k default = t at *
      obtain ⟨⟨ao, capo, hvo, -, -, -⟩, -, hoz, ⟨ae, cape, hve, -, -, -⟩, -, -, hez⟩ := HOK.out
      rw [hvo] at c0
      rw [hve] at c1
      have HWS : Hid (∀ W, Below w0.heap.size w0 W → Calls Try.prog 23 #[.agg #[.slice ao t.out.length capo, .slice ae t.esc.length cape, .bool t.atomic, .bool t.dstep, .bool t.e, .bool t.acc, .bool t.pro]] W (WaysPost t W)) := by
        intro W hBW
        have := ways_any t w0 W HOK.out hBW
        unfold LoD.val at this
        rw [hvo, hve] at this
        exact this
      clear hvo hve
      have HLok : Hid (∀ y ∈ waysL t, y.ok w0) := by
        intro y hy
        unfold waysL at hy
        rw [List.mem_cons] at hy
        rcases hy with rfl | hy
        · exact ⟨HOK.out.ov, HOK.out.out, HOK.out.oz⟩
        · exact HOK.out.esc y hy
      have hLz : (waysL t).length ≤ 1048577 := by
        show t.esc.length + 1 ≤ _
        omega
      go_wp2_with fail
      (with_reducible refine (HWS.out _ (hBw0.alloc hBw0.size _)).mono ?_)
      rintro e w1 ⟨v, rfl, hsl, hB1⟩
      have hBw1 : Below w.heap.size w w1 := (hBw.alloc hsz _).trans (hB1.mono (by simp; omega))
      have hB01 : Below W0.heap.size W0 w1 := (hB.alloc hszB _).trans (hB1.mono (by simp; omega))
      clear hB1 HWS c0 c1 c2 c3 c4 c5 c6 hBw0
      obtain ⟨av, cv, rfl, -, -, hcv⟩ := hsl
      have HCV := Lib.hid hcv; clear hcv
      generalize waysL t = L at *
      go_wp2_with fail
      go_loopg [30] L.length (fun gg i wx => ∃ k2 : Nat, k2 ≤ L.length ∧ gg = L.length - k2 ∧ i = .int .i64 k2 ∧ Below w1.heap.size w1 wx ∧ Hid ((L.take k2).all (wayB M n) = true))
      case atStart => exact ⟨0, Nat.zero_le _, by omega, rfl, Below.refl _ _, rfl⟩
      case round =>
        obtain ⟨k2, hk2, rfl, rfl, hB2, hS2⟩ := hrel
        by_cases hlt2 : k2 < L.length
        · obtain ⟨bv, offv, rfl, hbv, hcv⟩ := HCV.out (by omega)
          have d0 := (hB2.cell (p := ⟨bv, offv + k2 * 1 + 0, none⟩) hbv).trans (hcv k2 hlt2 0 (by omega))
          simp only [EsD.enc, Nat.mul_one, Nat.add_zero] at d0
          clear hcv
          have HY := Lib.hid (HLok.out _ (getD_mem hlt2))
          have HS2 := Lib.hid (all_step hS2.out hlt2)
          have HF2 := Lib.hid (all_fail (p := wayB M n) hlt2)
          have HYB : Hid (wayB M n (L.getD k2 default) = (L.getD k2 default).l.all (wayF M n)) := rfl
          generalize L.getD k2 default = y at *
          obtain ⟨⟨ay, capy, hvy, -, -, hcy⟩, -, hyz⟩ := HY.out
          rw [hvy] at d0
          have HCY := Lib.hid hcy
          clear hvy hcy
          go_wp2_with fail
          go_loopg [36] y.l.length (fun gg i wx => ∃ k3 : Nat, k3 ≤ y.l.length ∧ gg = y.l.length - k3 ∧ i = .int .i64 k3 ∧ Below w1.heap.size w1 wx ∧ Hid ((y.l.take k3).all (wayF M n) = true))
          case atStart => exact ⟨0, Nat.zero_le _, by omega, rfl, hB2, rfl⟩
          case round =>
            obtain ⟨k3, hk3, rfl, rfl, hB3, hS3⟩ := hrel
            have hBw3 : Below w.heap.size w wr := hBw1.trans (hB3.mono hBw1.size)
            have hsz3 := hBw3.size
            have hsz31 := hB3.size
            by_cases hlt3 : k3 < y.l.length
            · obtain ⟨by_, offy, rfl, hby, hcy⟩ := HCY.out (by omega)
              have hBw03 : Below w0.heap.size w0 wr := HB0.out.trans (hBw3.mono hsz0)
              have g0 := (hBw03.cell (p := ⟨by_, offy + k3 * 9 + 0, none⟩) hby).trans (hcy k3 hlt3 0 (by omega))
              have g1 := (hBw03.cell (p := ⟨by_, offy + k3 * 9 + 1, none⟩) hby).trans (hcy k3 hlt3 1 (by omega))
              have g2 := (hBw03.cell (p := ⟨by_, offy + k3 * 9 + 2, none⟩) hby).trans (hcy k3 hlt3 2 (by omega))
              have g3 := (hBw03.cell (p := ⟨by_, offy + k3 * 9 + 3, none⟩) hby).trans (hcy k3 hlt3 3 (by omega))
              have g4 := (hBw03.cell (p := ⟨by_, offy + k3 * 9 + 4, none⟩) hby).trans (hcy k3 hlt3 4 (by omega))
              have g5 := (hBw03.cell (p := ⟨by_, offy + k3 * 9 + 5, none⟩) hby).trans (hcy k3 hlt3 5 (by omega))
              have g6 := (hBw03.cell (p := ⟨by_, offy + k3 * 9 + 6, none⟩) hby).trans (hcy k3 hlt3 6 (by omega))
              have g7 := (hBw03.cell (p := ⟨by_, offy + k3 * 9 + 7, none⟩) hby).trans (hcy k3 hlt3 7 (by omega))
              have g8 := (hBw03.cell (p := ⟨by_, offy + k3 * 9 + 8, none⟩) hby).trans (hcy k3 hlt3 8 (by omega))
              simp only [TrD.enc, Nat.add_zero] at g0 g1 g2 g3 g4 g5 g6 g7 g8
              clear hcy
              have HXO := Lib.hid (HY.out.2.1 _ (getD_mem hlt3))
              have HS3 := Lib.hid (all_step hS3.out hlt3)
              have HF3 := Lib.hid (all_fail (p := wayF M n) hlt3)
              generalize y.l.getD k3 default = z at *
              obtain ⟨-, -, -, -, -, -, -, ⟨a4, cp4, hv4, -, -, -⟩, -, -, -, ⟨a5, cp5, hv5, -, -, -⟩, -, -⟩ := HXO.out
              rw [hv4] at g4
              rw [hv5] at g5
              have HW2 : Hid (∀ W, Below w.heap.size w W → Calls Try.prog 24 #[.pointer (some ⟨b, 0, none⟩), .int .i64 n, .agg #[.int .i64 z.kind, .int .i64 z.a, .int .i64 z.b, .int .i64 z.n, .slice a4 z.args.length cp4, .slice a5 z.mat.length cp5, .string z.text]] W fun e w' => e = .returned (.bool (wayF M n z)) ∧ Below W.heap.size W w') := by
                intro W hW
                have := HWY.out z W HXO.out hW
                unfold TrD.st at this
                rw [hv4, hv5] at this
                exact this
              clear hv4 hv5
              cases ht : wayF M n z
              all_goals
                go_wp2_with fail
                (with_reducible refine (HW2.out _ (hBw3.alloc hsz3 _)).mono ?_)
                rintro e w2 ⟨rfl, hB4⟩
                rw [ht]
                have hB5 : Below w1.heap.size w1 w2 := (hB3.alloc hsz31 _).trans (hB4.mono (by simp; omega))
                have hB6 : Below w.heap.size w w2 := hBw1.trans (hB5.mono hBw1.size)
                clear hB4
              · have HN : Hid (procB M n p = false) := by
                  unfold Hid procB
                  rw [HF.out (by rw [HLB.out]; exact HF2.out (by rw [HYB.out]; exact HF3.out ht)), Bool.false_and]
                clear ht
                go_wp2_with fail
                go_ret
                exact ⟨retb HN.out.symm, hB6⟩
              · have HN := Lib.hid (HS3.out ht)
                clear ht
                go_wp2_with fail
                go_roundg (y.l.length - (k3 + 1))
                case measure => omega
                case rel => exact ⟨k3 + 1, by omega, rfl, by go_num, hB5, HN⟩
            · have HN := Lib.hid (HS2.out (by rw [HYB.out]; exact all_end hS3.out hlt3))
              go_wp2_with fail
              go_roundg (L.length - (k2 + 1))
              case measure => omega
              case rel => exact ⟨k2 + 1, by omega, rfl, by go_num, hB3, HN⟩
        · have HN := Lib.hid (HS.out (by rw [HLB.out]; exact all_end hS2.out hlt2))
          go_wp2_with fail
          go_roundg (p.locs.length - (k + 1))
          case measure => omega
          case rel => exact ⟨k + 1, by omega, rfl, by go_num, hB01.trans (hB2.mono hB01.size), HN⟩
    · have HG : Hid (procB M n p = (decide (p.provided < 0) || usesW M n (-1) [p.provided])) := by
        unfold Hid procB
        rw [all_end hS.out hlt, Bool.true_and]
      have k9 := (hB.cell (p := ⟨w.heap.size, 9, none⟩) (show w.heap.size < W0.heap.size by have := HZ.out; omega)).trans HK9.out
      by_cases hpv0 : p.provided < 0
      · go_wp2_with fail
        go_ret
        exact ⟨retb (by rw [HG.out]; simp [hpv0]), hBw⟩
      · have hp0 : 0 ≤ p.provided := by omega
        go_wp2_with fail
        (with_reducible refine (HUS.out _ _ [p.provided] _ (hBw.alloc hsz _) (sl_at rfl) sn_some (by simp) (by intro q hq; simp at hq; rw [hq]; unfold inB; simp; omega)).mono ?_)
        rintro e w1 ⟨rfl, hB1⟩
        have hB2 : Below w.heap.size w w1 := (hBw.alloc hsz _).trans (hB1.mono (by simp; omega))
        clear hB1
        go_wp2_with fail
        go_ret
        exact ⟨retb (by rw [HG.out, decide_eq_false (by omega), Bool.false_or]), hB2⟩
end Go.Proofs.Ytblpajbacdbgpaa

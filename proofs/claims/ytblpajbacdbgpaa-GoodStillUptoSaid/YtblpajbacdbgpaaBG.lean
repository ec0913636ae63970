/-
  Contract of good's Check. Condition: the model is laid as data.
-/
import Derived.Test.YtblpajbacdbgpaaBF
import Derived.Test.YtblpajbacdbgpaaBD
import Derived.Test.YtblpajbacdbgpaaM
namespace Go.Proofs.Ytblpajbacdbgpaa
open Go.ChangeShapes Go.WideShapes Go.ChangeAt Go.RowKit Go.Deep Go.Joins
theorem TrD.ok.keep {w W : World} {x : TrD} (h : x.ok w) (hB : Below w.heap.size w W) : x.ok W :=
  ⟨h.kind, h.a, h.b, h.n, h.to, h.line, h.text, h.av.keep hB, h.args, h.an, h.az, h.mv.keep hB, h.mat, h.mz⟩
theorem EsD.ok.keep {w W : World} {x : EsD} (h : x.ok w) (hB : Below w.heap.size w W) : x.ok W :=
  ⟨h.1.keep hB, fun t ht => (h.2.1 t ht).keep hB, h.2.2⟩
theorem LoD.ok.keep {w W : World} {x : LoD} (h : x.ok w) (hB : Below w.heap.size w W) : x.ok W :=
  ⟨h.ov.keep hB, fun t ht => (h.out t ht).keep hB, h.oz, h.ev.keep hB, fun t ht => (h.esc t ht).keep hB, h.en, h.ez⟩
theorem PrD.ok.keep {w W : World} {x : PrD} (h : x.ok w) (hB : Below w.heap.size w W) : x.ok W :=
  ⟨h.params, h.start, h.final, h.active, h.prio, h.provided, h.fv.keep hB, h.fz, h.iv.keep hB, h.init, h.iz, h.lv.keep hB, fun t ht => (h.locs t ht).keep hB, h.lz⟩
def badC (M : MoD) (p : PrD) (i : Nat) : Bool := !frameF p || (!graphF p || (decide (p.provided < -1) || (decide ((M.exprs.length : Int) ≤ p.provided) || (((i : Int) == M.claim) && !claimedF p))))
noncomputable def c2F (M : MoD) : Nat → Nat → Int × Int × Int
  | 0, _ => (0, 0, 0)
  | n + 1, i => if procB M i (M.procs.getD i default) = true then c2F M n (i + 1) else (40, 6, (i : Int))
noncomputable def c1F (M : MoD) : Nat → Nat → Int → Int × Int × Int
  | 0, _, many => if 16 < many then (40, 5, -1) else c2F M M.procs.length 0
  | n + 1, i, many => if badC M (M.procs.getD i default) i = true then (40, 4, (i : Int)) else c1F M n (i + 1) (many + (M.procs.getD i default).active)
noncomputable def checkF (M : MoD) : Int × Int × Int := if 0 < (tablesF M).1 then (40, (tablesF M).1, (tablesF M).2) else c1F M M.procs.length 0 0
def c3V (t : Int × Int × Int) : Value := .tuple #[.int .i64 t.1, .int .i64 t.2.1, .int .i64 t.2.2]
theorem c2_form (M : MoD) : ∀ n i, c2F M n i = (0, 0, 0) ∨ (c2F M n i).1 = 40
  | 0, _ => .inl rfl
  | n + 1, i => by
    unfold c2F
    split
    · exact c2_form M n (i + 1)
    · exact .inr rfl
theorem c1_form (M : MoD) : ∀ n i many, c1F M n i many = (0, 0, 0) ∨ (c1F M n i many).1 = 40
  | 0, _, many => by
    unfold c1F
    split
    · exact .inr rfl
    · exact c2_form M _ _
  | n + 1, i, many => by
    unfold c1F
    split
    · exact .inr rfl
    · exact c1_form M n (i + 1) _
theorem check_form (M : MoD) : checkF M = (0, 0, 0) ∨ (checkF M).1 = 40 := by
  unfold checkF
  split
  · exact .inr rfl
  · exact c1_form M _ _ _
theorem active_bd {p : PrD} (h : frameF p = true) : 0 ≤ p.active ∧ p.active ≤ 16 := by
  unfold frameF at h
  simp only [Bool.and_eq_true, decide_eq_true_eq] at h
  omega
set_option maxHeartbeats 4000000 in
set_option maxRecDepth 100000 in
theorem check_any (M : MoD) (w0 : World) (hM : M.ok w0) (w : World) (hB : Below w0.heap.size w0 w) :
    Calls Try.prog 12 #[M.val] w fun e w' => e = .returned (c3V (checkF M)) ∧ Below w.heap.size w w' := by
  have HPO := Lib.hid hM.procs
  have HTB : Hid (∀ W b, Below w0.heap.size w0 W → Ck W b M → Calls Try.prog 14 #[.pointer (some ⟨b, 0, none⟩)] W fun e w' => e = .returned (tbV (tablesF M)) ∧ Below W.heap.size W w') := fun W b hW hk => tables_any M w0 hM b W hW hk
  have HPC : Hid (∀ (n : Nat) W b, Below w0.heap.size w0 W → Ck W b M → GoodX M → n < M.procs.length → (M.procs.getD n default).provided < M.exprs.length → Calls Try.prog 18 #[.pointer (some ⟨b, 0, none⟩), .int .i64 n] W fun e w' => e = .returned (.bool (procB M n (M.procs.getD n default))) ∧ Below W.heap.size W w') :=
    fun n W b hW hk hX hn hp => proc_any M w0 hM b n W hW hk hX hn hp
  have hMM := hM
  obtain ⟨hcl, hgv, hgz, hiv, hiq, hiz, hsv, hsq, hsz_, hcv, hcq, hcz, hpv, hpq, hpz, hxv, hxq, hxz⟩ := hMM
  obtain ⟨ag, cg, egv, -, -, -⟩ := hgv
  obtain ⟨ai, ci, eiv, -, -, -⟩ := hiv
  obtain ⟨as_, cs, esv, -, -, -⟩ := hsv
  obtain ⟨ac, cc, ecv, -, -, -⟩ := hcv
  obtain ⟨ap, cp, epv, -, -, hcp⟩ := hpv
  obtain ⟨ax, cx, exv, -, -, -⟩ := hxv
  have HCP := Lib.hid hcp
  have HB0 := Lib.hid hB
  have hsz0 := hB.size
  have HEQ := Lib.hid (And.intro egv (And.intro eiv (And.intro esv (And.intro ecv (And.intro epv exv)))))
  unfold MoD.val
  rw [egv, eiv, esv, ecv, epv, exv]
  clear egv eiv esv ecv epv exv hcp hpq hxq hsq hcq hiq hcl hM hB
  go_enter Try.func12, Try.ntmps12
  go_upto_region 2 with fail
  generalize hbx : (w.alloc (.cells #[.slice ag M.globals.length cg, .slice ai M.init.length ci, .slice as_ M.shapes.length cs, .slice ac M.chans.length cc, .slice ap M.procs.length cp, .int .i64 M.claim, .slice ax M.exprs.length cx] 39)).alloc (.cells #[.slice ag M.globals.length cg, .slice ai M.init.length ci, .slice as_ M.shapes.length cs, .slice ac M.chans.length cc, .slice ap M.procs.length cp, .int .i64 M.claim, .slice ax M.exprs.length cx] 52) = W0 at *
  have hW0 : Below w.heap.size w W0 := by rw [← hbx]; exact ((Below.refl _ _).alloc (Nat.le_refl _) _).alloc (by simp) _
  have hz0 : w.heap.size + 1 < W0.heap.size := by rw [← hbx]; simp
  have k4 : W0.cell? ⟨w.heap.size, 4, none⟩ = some (.slice ap M.procs.length cp) := by rw [← hbx]; simp [go_sem]
  have k5 : W0.cell? ⟨w.heap.size, 5, none⟩ = some (.int .i64 M.claim) := by rw [← hbx]; simp [go_sem]
  have k6 : W0.cell? ⟨w.heap.size, 6, none⟩ = some (.slice ax M.exprs.length cx) := by rw [← hbx]; simp [go_sem]
  have hck : Ck W0 (w.heap.size + 1) M := by
    obtain ⟨e1, e2, e3, e4, e5, e6⟩ := HEQ.out
    rw [← hbx]
    exact ⟨by rw [e1]; simp [go_sem], by rw [e2]; simp [go_sem], by rw [e3]; simp [go_sem], by rw [e4]; simp [go_sem], by rw [e5]; simp [go_sem], by simp [go_sem], by rw [e6]; simp [go_sem]⟩
  clear hbx
  have HCK := Lib.hid hck
  clear hck
  go_wp2_with fail
  (with_reducible refine (HTB.out _ _ (HB0.out.trans (hW0.mono hsz0)) HCK.out).mono ?_)
  rintro e w1 ⟨rfl, hB1⟩
  have hE1 : Below w.heap.size w w1 := hW0.trans (hB1.mono hW0.size)
  have hD1 : Below W0.heap.size W0 w1 := hB1
  clear hB1
  simp only [tbV]
  have K4 := Lib.hid k4
  have K5 := Lib.hid k5
  have K6 := Lib.hid k6
  have hzw : w.heap.size < W0.heap.size := by omega
  have r4 := (hD1.cell (p := ⟨w.heap.size, 4, none⟩) hzw).trans k4
  clear k4 k5 k6
  rcases tables_cases M with ⟨h0, hX, hcl, hpl⟩ | hpos
  · have HC : Hid (checkF M = c1F M M.procs.length 0 0) := by
      unfold Hid checkF
      rw [h0, if_neg (by simp)]
    have HX := Lib.hid hX
    rw [h0]
    clear h0 hX
    simp only
    go_wp2_with fail
    go_loopg [27, 8] M.procs.length (fun gg i many wr => ∃ (k : Nat) (m : Int), k ≤ M.procs.length ∧ gg = M.procs.length - k ∧ i = .int .i64 k ∧ many = .int .i64 m ∧ 0 ≤ m ∧ m ≤ 16 * k ∧ Below W0.heap.size W0 wr ∧ Hid (checkF M = c1F M (M.procs.length - k) k m) ∧ Hid (∀ j, j < k → badC M (M.procs.getD j default) j = false))
    case atStart => exact ⟨0, 0, Nat.zero_le _, by omega, rfl, rfl, by omega, by omega, hD1, HC, fun j hj => absurd hj (by omega)⟩
    case round =>
      obtain ⟨k, m, hk, rfl, rfl, rfl, hm0, hm1, hD, HC2, HJ⟩ := hrel
      have hDw : Below w.heap.size w wr := hW0.trans (hD.mono hW0.size)
      have hDz := hDw.size
      have hDz0 := hD.size
      by_cases hlt : k < M.procs.length
      · have HST : Hid (checkF M = if badC M (M.procs.getD k default) k = true then (40, 4, (k : Int)) else c1F M (M.procs.length - (k + 1)) (k + 1) (m + (M.procs.getD k default).active)) := by
          unfold Hid
          rw [HC2.out, show M.procs.length - k = (M.procs.length - (k + 1)) + 1 by omega]
          rfl
        obtain ⟨bp, offp, rfl, hbp, hcp⟩ := HCP.out (by omega)
        have hD0 : Below w0.heap.size w0 wr := HB0.out.trans (hDw.mono hsz0)
        have f0 := (hD0.cell (p := ⟨bp, offp + k * 10 + 0, none⟩) hbp).trans (hcp k hlt 0 (by omega))
        have f1 := (hD0.cell (p := ⟨bp, offp + k * 10 + 1, none⟩) hbp).trans (hcp k hlt 1 (by omega))
        have f2 := (hD0.cell (p := ⟨bp, offp + k * 10 + 2, none⟩) hbp).trans (hcp k hlt 2 (by omega))
        have f3 := (hD0.cell (p := ⟨bp, offp + k * 10 + 3, none⟩) hbp).trans (hcp k hlt 3 (by omega))
        have f4 := (hD0.cell (p := ⟨bp, offp + k * 10 + 4, none⟩) hbp).trans (hcp k hlt 4 (by omega))
        have f5 := (hD0.cell (p := ⟨bp, offp + k * 10 + 5, none⟩) hbp).trans (hcp k hlt 5 (by omega))
        have f6 := (hD0.cell (p := ⟨bp, offp + k * 10 + 6, none⟩) hbp).trans (hcp k hlt 6 (by omega))
        have f7 := (hD0.cell (p := ⟨bp, offp + k * 10 + 7, none⟩) hbp).trans (hcp k hlt 7 (by omega))
        have f8 := (hD0.cell (p := ⟨bp, offp + k * 10 + 8, none⟩) hbp).trans (hcp k hlt 8 (by omega))
        have f9 := (hD0.cell (p := ⟨bp, offp + k * 10 + 9, none⟩) hbp).trans (hcp k hlt 9 (by omega))
        simp only [PrD.enc, Nat.add_zero] at f0 f1 f2 f3 f4 f5 f6 f7 f8 f9
        have HPK := Lib.hid (HPO.out _ (getD_mem hlt))
        have HBC : Hid (badC M (M.procs.getD k default) k = (!frameF (M.procs.getD k default) || (!graphF (M.procs.getD k default) || (decide ((M.procs.getD k default).provided < -1) || (decide ((M.exprs.length : Int) ≤ (M.procs.getD k default).provided) || (((k : Int) == M.claim) && !claimedF (M.procs.getD k default))))))) := rfl
        have HJ2 : Hid (badC M (M.procs.getD k default) k = false → ∀ j, j < k + 1 → badC M (M.procs.getD j default) j = false) := by
          intro hb j hj
          by_cases e : j = k
          · rw [e]; exact hb
          · exact HJ.out j (by omega)
        clear hcp HC2
        have hkl : (k : Int) < M.procs.length := by omega
        generalize M.procs.getD k default = p at *
        have HFR := Lib.hid (fun W (hW : Below w0.heap.size w0 W) => frame_any p W (HPK.out.keep hW))
        have HGR := Lib.hid (fun W (hW : Below w0.heap.size w0 W) => graph_any p W (HPK.out.keep hW))
        have HCLM := Lib.hid (fun W (hW : Below w0.heap.size w0 W) => claimed_any p W (HPK.out.keep hW))
        obtain ⟨af, capf, hvf, -, -, -⟩ := HPK.out.fv
        obtain ⟨ai, capi, hvi, -, -, -⟩ := HPK.out.iv
        obtain ⟨al, capl, hvl, -, -, -⟩ := HPK.out.lv
        rw [hvf] at f2
        rw [hvi] at f3
        rw [hvl] at f4
        unfold PrD.val at HFR HGR HCLM
        rw [hvf, hvi, hvl] at HFR HGR HCLM
        clear hvf hvi hvl
        have r5 := (hD.cell (p := ⟨w.heap.size, 5, none⟩) hzw).trans K5.out
        have r6 := (hD.cell (p := ⟨w.heap.size, 6, none⟩) hzw).trans K6.out
        go_upto_region 9 with fail
        have hzr : wr.heap.size < (wr.alloc (.cells #[.string p.name, .int .i64 p.params, .slice af p.frame.length capf, .slice ai p.init.length capi, .slice al p.locs.length capl, .int .i64 p.start, .int .i64 p.final, .int .i64 p.active, .int .i64 p.prio, .int .i64 p.provided] 47)).heap.size := by simp
        have hW3 : Below W0.heap.size W0 (wr.alloc (.cells #[.string p.name, .int .i64 p.params, .slice af p.frame.length capf, .slice ai p.init.length capi, .slice al p.locs.length capl, .int .i64 p.start, .int .i64 p.final, .int .i64 p.active, .int .i64 p.prio, .int .i64 p.provided] 47)) := hD.alloc hDz0 _
        have hW3w : Below w.heap.size w (wr.alloc (.cells #[.string p.name, .int .i64 p.params, .slice af p.frame.length capf, .slice ai p.init.length capi, .slice al p.locs.length capl, .int .i64 p.start, .int .i64 p.final, .int .i64 p.active, .int .i64 p.prio, .int .i64 p.provided] 47)) := hDw.alloc hDz _
        have b0 : (wr.alloc (.cells #[.string p.name, .int .i64 p.params, .slice af p.frame.length capf, .slice ai p.init.length capi, .slice al p.locs.length capl, .int .i64 p.start, .int .i64 p.final, .int .i64 p.active, .int .i64 p.prio, .int .i64 p.provided] 47)).cell? ⟨wr.heap.size, 0, none⟩ = some (.string p.name) := by simp [go_sem]
        have b1 : (wr.alloc (.cells #[.string p.name, .int .i64 p.params, .slice af p.frame.length capf, .slice ai p.init.length capi, .slice al p.locs.length capl, .int .i64 p.start, .int .i64 p.final, .int .i64 p.active, .int .i64 p.prio, .int .i64 p.provided] 47)).cell? ⟨wr.heap.size, 1, none⟩ = some (.int .i64 p.params) := by simp [go_sem]
        have b2 : (wr.alloc (.cells #[.string p.name, .int .i64 p.params, .slice af p.frame.length capf, .slice ai p.init.length capi, .slice al p.locs.length capl, .int .i64 p.start, .int .i64 p.final, .int .i64 p.active, .int .i64 p.prio, .int .i64 p.provided] 47)).cell? ⟨wr.heap.size, 2, none⟩ = some (.slice af p.frame.length capf) := by simp [go_sem]
        have b3 : (wr.alloc (.cells #[.string p.name, .int .i64 p.params, .slice af p.frame.length capf, .slice ai p.init.length capi, .slice al p.locs.length capl, .int .i64 p.start, .int .i64 p.final, .int .i64 p.active, .int .i64 p.prio, .int .i64 p.provided] 47)).cell? ⟨wr.heap.size, 3, none⟩ = some (.slice ai p.init.length capi) := by simp [go_sem]
        have b4 : (wr.alloc (.cells #[.string p.name, .int .i64 p.params, .slice af p.frame.length capf, .slice ai p.init.length capi, .slice al p.locs.length capl, .int .i64 p.start, .int .i64 p.final, .int .i64 p.active, .int .i64 p.prio, .int .i64 p.provided] 47)).cell? ⟨wr.heap.size, 4, none⟩ = some (.slice al p.locs.length capl) := by simp [go_sem]
        have b5 : (wr.alloc (.cells #[.string p.name, .int .i64 p.params, .slice af p.frame.length capf, .slice ai p.init.length capi, .slice al p.locs.length capl, .int .i64 p.start, .int .i64 p.final, .int .i64 p.active, .int .i64 p.prio, .int .i64 p.provided] 47)).cell? ⟨wr.heap.size, 5, none⟩ = some (.int .i64 p.start) := by simp [go_sem]
        have b6 : (wr.alloc (.cells #[.string p.name, .int .i64 p.params, .slice af p.frame.length capf, .slice ai p.init.length capi, .slice al p.locs.length capl, .int .i64 p.start, .int .i64 p.final, .int .i64 p.active, .int .i64 p.prio, .int .i64 p.provided] 47)).cell? ⟨wr.heap.size, 6, none⟩ = some (.int .i64 p.final) := by simp [go_sem]
        have b7 : (wr.alloc (.cells #[.string p.name, .int .i64 p.params, .slice af p.frame.length capf, .slice ai p.init.length capi, .slice al p.locs.length capl, .int .i64 p.start, .int .i64 p.final, .int .i64 p.active, .int .i64 p.prio, .int .i64 p.provided] 47)).cell? ⟨wr.heap.size, 7, none⟩ = some (.int .i64 p.active) := by simp [go_sem]
        have b8 : (wr.alloc (.cells #[.string p.name, .int .i64 p.params, .slice af p.frame.length capf, .slice ai p.init.length capi, .slice al p.locs.length capl, .int .i64 p.start, .int .i64 p.final, .int .i64 p.active, .int .i64 p.prio, .int .i64 p.provided] 47)).cell? ⟨wr.heap.size, 8, none⟩ = some (.int .i64 p.prio) := by simp [go_sem]
        have b9 : (wr.alloc (.cells #[.string p.name, .int .i64 p.params, .slice af p.frame.length capf, .slice ai p.init.length capi, .slice al p.locs.length capl, .int .i64 p.start, .int .i64 p.final, .int .i64 p.active, .int .i64 p.prio, .int .i64 p.provided] 47)).cell? ⟨wr.heap.size, 9, none⟩ = some (.int .i64 p.provided) := by simp [go_sem]
        generalize wr.alloc (.cells #[.string p.name, .int .i64 p.params, .slice af p.frame.length capf, .slice ai p.init.length capi, .slice al p.locs.length capl, .int .i64 p.start, .int .i64 p.final, .int .i64 p.active, .int .i64 p.prio, .int .i64 p.provided] 47) = W3 at *
        have s5 := (hW3.cell (p := ⟨w.heap.size, 5, none⟩) hzw).trans K5.out
        have s6 := (hW3.cell (p := ⟨w.heap.size, 6, none⟩) hzw).trans K6.out
        have hW30 : Below w0.heap.size w0 W3 := HB0.out.trans (hW3w.mono hsz0)
        clear f0 f1 f2 f3 f4 f5 f6 f7 f8 f9 r5 r6
        cases hf : frameF p
        · have HT : Hid (checkF M = (40, 4, (k : Int))) := by unfold Hid; rw [HST.out, HBC.out, hf]; rfl
          go_wp2_with fail
          (with_reducible refine (HFR.out _ hW30).mono ?_)
          rintro e w2 ⟨rfl, hBw2⟩
          rw [hf]
          have hEw2 : Below w.heap.size w w2 := hW3w.trans (hBw2.mono hW3w.size)
          have hDw2 : Below W3.heap.size W3 w2 := hBw2
          have hAw2 : Below w0.heap.size w0 w2 := HB0.out.trans (hEw2.mono hsz0)
          clear hBw2
          have c0 := (hDw2.cell (p := ⟨wr.heap.size, 0, none⟩) hzr).trans b0
          have c1 := (hDw2.cell (p := ⟨wr.heap.size, 1, none⟩) hzr).trans b1
          have c2 := (hDw2.cell (p := ⟨wr.heap.size, 2, none⟩) hzr).trans b2
          have c3 := (hDw2.cell (p := ⟨wr.heap.size, 3, none⟩) hzr).trans b3
          have c4 := (hDw2.cell (p := ⟨wr.heap.size, 4, none⟩) hzr).trans b4
          have c5 := (hDw2.cell (p := ⟨wr.heap.size, 5, none⟩) hzr).trans b5
          have c6 := (hDw2.cell (p := ⟨wr.heap.size, 6, none⟩) hzr).trans b6
          have c7 := (hDw2.cell (p := ⟨wr.heap.size, 7, none⟩) hzr).trans b7
          have c8 := (hDw2.cell (p := ⟨wr.heap.size, 8, none⟩) hzr).trans b8
          have c9 := (hDw2.cell (p := ⟨wr.heap.size, 9, none⟩) hzr).trans b9
          go_wp2_with fail
          go_ret3
          exact ⟨rett (by rw [HT.out]; rfl), hEw2⟩
        · cases hg : graphF p
          · have HT : Hid (checkF M = (40, 4, (k : Int))) := by unfold Hid; rw [HST.out, HBC.out, hf, hg]; rfl
            go_wp2_with fail
            (with_reducible refine (HFR.out _ hW30).mono ?_)
            rintro e w2 ⟨rfl, hBw2⟩
            rw [hf]
            have hEw2 : Below w.heap.size w w2 := hW3w.trans (hBw2.mono hW3w.size)
            have hDw2 : Below W3.heap.size W3 w2 := hBw2
            have hAw2 : Below w0.heap.size w0 w2 := HB0.out.trans (hEw2.mono hsz0)
            clear hBw2
            have c0 := (hDw2.cell (p := ⟨wr.heap.size, 0, none⟩) hzr).trans b0
            have c1 := (hDw2.cell (p := ⟨wr.heap.size, 1, none⟩) hzr).trans b1
            have c2 := (hDw2.cell (p := ⟨wr.heap.size, 2, none⟩) hzr).trans b2
            have c3 := (hDw2.cell (p := ⟨wr.heap.size, 3, none⟩) hzr).trans b3
            have c4 := (hDw2.cell (p := ⟨wr.heap.size, 4, none⟩) hzr).trans b4
            have c5 := (hDw2.cell (p := ⟨wr.heap.size, 5, none⟩) hzr).trans b5
            have c6 := (hDw2.cell (p := ⟨wr.heap.size, 6, none⟩) hzr).trans b6
            have c7 := (hDw2.cell (p := ⟨wr.heap.size, 7, none⟩) hzr).trans b7
            have c8 := (hDw2.cell (p := ⟨wr.heap.size, 8, none⟩) hzr).trans b8
            have c9 := (hDw2.cell (p := ⟨wr.heap.size, 9, none⟩) hzr).trans b9
            go_wp2_with fail
            (with_reducible refine (HGR.out _ hAw2).mono ?_)
            rintro e w3 ⟨rfl, hBw3⟩
            rw [hg]
            have hEw3 : Below w.heap.size w w3 := hEw2.trans (hBw3.mono hEw2.size)
            have hDw3 : Below W3.heap.size W3 w3 := hDw2.trans (hBw3.mono hDw2.size)
            have hAw3 : Below w0.heap.size w0 w3 := HB0.out.trans (hEw3.mono hsz0)
            clear hBw3
            have d0 := (hDw3.cell (p := ⟨wr.heap.size, 0, none⟩) hzr).trans b0
            have d1 := (hDw3.cell (p := ⟨wr.heap.size, 1, none⟩) hzr).trans b1
            have d2 := (hDw3.cell (p := ⟨wr.heap.size, 2, none⟩) hzr).trans b2
            have d3 := (hDw3.cell (p := ⟨wr.heap.size, 3, none⟩) hzr).trans b3
            have d4 := (hDw3.cell (p := ⟨wr.heap.size, 4, none⟩) hzr).trans b4
            have d5 := (hDw3.cell (p := ⟨wr.heap.size, 5, none⟩) hzr).trans b5
            have d6 := (hDw3.cell (p := ⟨wr.heap.size, 6, none⟩) hzr).trans b6
            have d7 := (hDw3.cell (p := ⟨wr.heap.size, 7, none⟩) hzr).trans b7
            have d8 := (hDw3.cell (p := ⟨wr.heap.size, 8, none⟩) hzr).trans b8
            have d9 := (hDw3.cell (p := ⟨wr.heap.size, 9, none⟩) hzr).trans b9
            have t5 := ((hW3.trans (hDw3.mono hW3.size)).cell (p := ⟨w.heap.size, 5, none⟩) hzw).trans K5.out
            have t6 := ((hW3.trans (hDw3.mono hW3.size)).cell (p := ⟨w.heap.size, 6, none⟩) hzw).trans K6.out
            go_wp2_with fail
            go_ret3
            exact ⟨rett (by rw [HT.out]; rfl), hEw3⟩
          · cases hp1 : decide (p.provided < -1)
            · cases hp2 : decide ((M.exprs.length : Int) ≤ p.provided)
              · cases hq : ((k : Int) == M.claim)
                · go_wp2_with fail
                  (with_reducible refine (HFR.out _ hW30).mono ?_)
                  rintro e w2 ⟨rfl, hBw2⟩
                  rw [hf]
                  have hEw2 : Below w.heap.size w w2 := hW3w.trans (hBw2.mono hW3w.size)
                  have hDw2 : Below W3.heap.size W3 w2 := hBw2
                  have hAw2 : Below w0.heap.size w0 w2 := HB0.out.trans (hEw2.mono hsz0)
                  clear hBw2
                  have c0 := (hDw2.cell (p := ⟨wr.heap.size, 0, none⟩) hzr).trans b0
                  have c1 := (hDw2.cell (p := ⟨wr.heap.size, 1, none⟩) hzr).trans b1
                  have c2 := (hDw2.cell (p := ⟨wr.heap.size, 2, none⟩) hzr).trans b2
                  have c3 := (hDw2.cell (p := ⟨wr.heap.size, 3, none⟩) hzr).trans b3
                  have c4 := (hDw2.cell (p := ⟨wr.heap.size, 4, none⟩) hzr).trans b4
                  have c5 := (hDw2.cell (p := ⟨wr.heap.size, 5, none⟩) hzr).trans b5
                  have c6 := (hDw2.cell (p := ⟨wr.heap.size, 6, none⟩) hzr).trans b6
                  have c7 := (hDw2.cell (p := ⟨wr.heap.size, 7, none⟩) hzr).trans b7
                  have c8 := (hDw2.cell (p := ⟨wr.heap.size, 8, none⟩) hzr).trans b8
                  have c9 := (hDw2.cell (p := ⟨wr.heap.size, 9, none⟩) hzr).trans b9
                  go_wp2_with fail
                  (with_reducible refine (HGR.out _ hAw2).mono ?_)
                  rintro e w3 ⟨rfl, hBw3⟩
                  rw [hg]
                  have hEw3 : Below w.heap.size w w3 := hEw2.trans (hBw3.mono hEw2.size)
                  have hDw3 : Below W3.heap.size W3 w3 := hDw2.trans (hBw3.mono hDw2.size)
                  have hAw3 : Below w0.heap.size w0 w3 := HB0.out.trans (hEw3.mono hsz0)
                  clear hBw3
                  have d0 := (hDw3.cell (p := ⟨wr.heap.size, 0, none⟩) hzr).trans b0
                  have d1 := (hDw3.cell (p := ⟨wr.heap.size, 1, none⟩) hzr).trans b1
                  have d2 := (hDw3.cell (p := ⟨wr.heap.size, 2, none⟩) hzr).trans b2
                  have d3 := (hDw3.cell (p := ⟨wr.heap.size, 3, none⟩) hzr).trans b3
                  have d4 := (hDw3.cell (p := ⟨wr.heap.size, 4, none⟩) hzr).trans b4
                  have d5 := (hDw3.cell (p := ⟨wr.heap.size, 5, none⟩) hzr).trans b5
                  have d6 := (hDw3.cell (p := ⟨wr.heap.size, 6, none⟩) hzr).trans b6
                  have d7 := (hDw3.cell (p := ⟨wr.heap.size, 7, none⟩) hzr).trans b7
                  have d8 := (hDw3.cell (p := ⟨wr.heap.size, 8, none⟩) hzr).trans b8
                  have d9 := (hDw3.cell (p := ⟨wr.heap.size, 9, none⟩) hzr).trans b9
                  have t5 := ((hW3.trans (hDw3.mono hW3.size)).cell (p := ⟨w.heap.size, 5, none⟩) hzw).trans K5.out
                  have t6 := ((hW3.trans (hDw3.mono hW3.size)).cell (p := ⟨w.heap.size, 6, none⟩) hzw).trans K6.out
                  have hbf : badC M p k = false := by rw [HBC.out, hf, hg, hp1, hp2, hq]; rfl
                  have HN : Hid (checkF M = c1F M (M.procs.length - (k + 1)) (k + 1) (m + p.active)) := by unfold Hid; rw [HST.out, hbf, if_neg (by simp)]
                  have HJN := Lib.hid (HJ2.out hbf)
                  have hac := active_bd hf
                  obtain ⟨ha1, ha2⟩ := hac
                  clear hbf
                  go_wp2_with fail
                  go_roundg (M.procs.length - (k + 1))
                  case measure => omega
                  case rel => exact ⟨k + 1, m + p.active, by omega, rfl, by go_num, rfl, by omega, by omega, hW3.trans (hDw3.mono hW3.size), HN, HJN⟩
                · cases hc : claimedF p
                  · have HT : Hid (checkF M = (40, 4, (k : Int))) := by unfold Hid; rw [HST.out, HBC.out, hf, hg, hp1, hp2, hq, hc]; rfl
                    go_wp2_with fail
                    (with_reducible refine (HFR.out _ hW30).mono ?_)
                    rintro e w2 ⟨rfl, hBw2⟩
                    rw [hf]
                    have hEw2 : Below w.heap.size w w2 := hW3w.trans (hBw2.mono hW3w.size)
                    have hDw2 : Below W3.heap.size W3 w2 := hBw2
                    have hAw2 : Below w0.heap.size w0 w2 := HB0.out.trans (hEw2.mono hsz0)
                    clear hBw2
                    have c0 := (hDw2.cell (p := ⟨wr.heap.size, 0, none⟩) hzr).trans b0
                    have c1 := (hDw2.cell (p := ⟨wr.heap.size, 1, none⟩) hzr).trans b1
                    have c2 := (hDw2.cell (p := ⟨wr.heap.size, 2, none⟩) hzr).trans b2
                    have c3 := (hDw2.cell (p := ⟨wr.heap.size, 3, none⟩) hzr).trans b3
                    have c4 := (hDw2.cell (p := ⟨wr.heap.size, 4, none⟩) hzr).trans b4
                    have c5 := (hDw2.cell (p := ⟨wr.heap.size, 5, none⟩) hzr).trans b5
                    have c6 := (hDw2.cell (p := ⟨wr.heap.size, 6, none⟩) hzr).trans b6
                    have c7 := (hDw2.cell (p := ⟨wr.heap.size, 7, none⟩) hzr).trans b7
                    have c8 := (hDw2.cell (p := ⟨wr.heap.size, 8, none⟩) hzr).trans b8
                    have c9 := (hDw2.cell (p := ⟨wr.heap.size, 9, none⟩) hzr).trans b9
                    go_wp2_with fail
                    (with_reducible refine (HGR.out _ hAw2).mono ?_)
                    rintro e w3 ⟨rfl, hBw3⟩
                    rw [hg]
                    have hEw3 : Below w.heap.size w w3 := hEw2.trans (hBw3.mono hEw2.size)
                    have hDw3 : Below W3.heap.size W3 w3 := hDw2.trans (hBw3.mono hDw2.size)
                    have hAw3 : Below w0.heap.size w0 w3 := HB0.out.trans (hEw3.mono hsz0)
                    clear hBw3
                    have d0 := (hDw3.cell (p := ⟨wr.heap.size, 0, none⟩) hzr).trans b0
                    have d1 := (hDw3.cell (p := ⟨wr.heap.size, 1, none⟩) hzr).trans b1
                    have d2 := (hDw3.cell (p := ⟨wr.heap.size, 2, none⟩) hzr).trans b2
                    have d3 := (hDw3.cell (p := ⟨wr.heap.size, 3, none⟩) hzr).trans b3
                    have d4 := (hDw3.cell (p := ⟨wr.heap.size, 4, none⟩) hzr).trans b4
                    have d5 := (hDw3.cell (p := ⟨wr.heap.size, 5, none⟩) hzr).trans b5
                    have d6 := (hDw3.cell (p := ⟨wr.heap.size, 6, none⟩) hzr).trans b6
                    have d7 := (hDw3.cell (p := ⟨wr.heap.size, 7, none⟩) hzr).trans b7
                    have d8 := (hDw3.cell (p := ⟨wr.heap.size, 8, none⟩) hzr).trans b8
                    have d9 := (hDw3.cell (p := ⟨wr.heap.size, 9, none⟩) hzr).trans b9
                    have t5 := ((hW3.trans (hDw3.mono hW3.size)).cell (p := ⟨w.heap.size, 5, none⟩) hzw).trans K5.out
                    have t6 := ((hW3.trans (hDw3.mono hW3.size)).cell (p := ⟨w.heap.size, 6, none⟩) hzw).trans K6.out
                    go_wp2_with fail
                    (with_reducible refine (HCLM.out _ hAw3).mono ?_)
                    rintro e w4 ⟨rfl, hBw4⟩
                    rw [hc]
                    have hEw4 : Below w.heap.size w w4 := hEw3.trans (hBw4.mono hEw3.size)
                    have hDw4 : Below W3.heap.size W3 w4 := hDw3.trans (hBw4.mono hDw3.size)
                    clear hBw4
                    have e7 := (hDw4.cell (p := ⟨wr.heap.size, 7, none⟩) hzr).trans b7
                    go_wp2_with fail
                    go_ret3
                    exact ⟨rett (by rw [HT.out]; rfl), hEw4⟩
                  · go_wp2_with fail
                    (with_reducible refine (HFR.out _ hW30).mono ?_)
                    rintro e w2 ⟨rfl, hBw2⟩
                    rw [hf]
                    have hEw2 : Below w.heap.size w w2 := hW3w.trans (hBw2.mono hW3w.size)
                    have hDw2 : Below W3.heap.size W3 w2 := hBw2
                    have hAw2 : Below w0.heap.size w0 w2 := HB0.out.trans (hEw2.mono hsz0)
                    clear hBw2
                    have c0 := (hDw2.cell (p := ⟨wr.heap.size, 0, none⟩) hzr).trans b0
                    have c1 := (hDw2.cell (p := ⟨wr.heap.size, 1, none⟩) hzr).trans b1
                    have c2 := (hDw2.cell (p := ⟨wr.heap.size, 2, none⟩) hzr).trans b2
                    have c3 := (hDw2.cell (p := ⟨wr.heap.size, 3, none⟩) hzr).trans b3
                    have c4 := (hDw2.cell (p := ⟨wr.heap.size, 4, none⟩) hzr).trans b4
                    have c5 := (hDw2.cell (p := ⟨wr.heap.size, 5, none⟩) hzr).trans b5
                    have c6 := (hDw2.cell (p := ⟨wr.heap.size, 6, none⟩) hzr).trans b6
                    have c7 := (hDw2.cell (p := ⟨wr.heap.size, 7, none⟩) hzr).trans b7
                    have c8 := (hDw2.cell (p := ⟨wr.heap.size, 8, none⟩) hzr).trans b8
                    have c9 := (hDw2.cell (p := ⟨wr.heap.size, 9, none⟩) hzr).trans b9
                    go_wp2_with fail
                    (with_reducible refine (HGR.out _ hAw2).mono ?_)
                    rintro e w3 ⟨rfl, hBw3⟩
                    rw [hg]
                    have hEw3 : Below w.heap.size w w3 := hEw2.trans (hBw3.mono hEw2.size)
                    have hDw3 : Below W3.heap.size W3 w3 := hDw2.trans (hBw3.mono hDw2.size)
                    have hAw3 : Below w0.heap.size w0 w3 := HB0.out.trans (hEw3.mono hsz0)
                    clear hBw3
                    have d0 := (hDw3.cell (p := ⟨wr.heap.size, 0, none⟩) hzr).trans b0
                    have d1 := (hDw3.cell (p := ⟨wr.heap.size, 1, none⟩) hzr).trans b1
                    have d2 := (hDw3.cell (p := ⟨wr.heap.size, 2, none⟩) hzr).trans b2
                    have d3 := (hDw3.cell (p := ⟨wr.heap.size, 3, none⟩) hzr).trans b3
                    have d4 := (hDw3.cell (p := ⟨wr.heap.size, 4, none⟩) hzr).trans b4
                    have d5 := (hDw3.cell (p := ⟨wr.heap.size, 5, none⟩) hzr).trans b5
                    have d6 := (hDw3.cell (p := ⟨wr.heap.size, 6, none⟩) hzr).trans b6
                    have d7 := (hDw3.cell (p := ⟨wr.heap.size, 7, none⟩) hzr).trans b7
                    have d8 := (hDw3.cell (p := ⟨wr.heap.size, 8, none⟩) hzr).trans b8
                    have d9 := (hDw3.cell (p := ⟨wr.heap.size, 9, none⟩) hzr).trans b9
                    have t5 := ((hW3.trans (hDw3.mono hW3.size)).cell (p := ⟨w.heap.size, 5, none⟩) hzw).trans K5.out
                    have t6 := ((hW3.trans (hDw3.mono hW3.size)).cell (p := ⟨w.heap.size, 6, none⟩) hzw).trans K6.out
                    go_wp2_with fail
                    (with_reducible refine (HCLM.out _ hAw3).mono ?_)
                    rintro e w4 ⟨rfl, hBw4⟩
                    rw [hc]
                    have hEw4 : Below w.heap.size w w4 := hEw3.trans (hBw4.mono hEw3.size)
                    have hDw4 : Below W3.heap.size W3 w4 := hDw3.trans (hBw4.mono hDw3.size)
                    clear hBw4
                    have e7 := (hDw4.cell (p := ⟨wr.heap.size, 7, none⟩) hzr).trans b7
                    have hbf : badC M p k = false := by rw [HBC.out, hf, hg, hp1, hp2, hq, hc]; rfl
                    have HN : Hid (checkF M = c1F M (M.procs.length - (k + 1)) (k + 1) (m + p.active)) := by unfold Hid; rw [HST.out, hbf, if_neg (by simp)]
                    have HJN := Lib.hid (HJ2.out hbf)
                    have hac := active_bd hf
                    obtain ⟨ha1, ha2⟩ := hac
                    clear hbf
                    go_wp2_with fail
                    go_roundg (M.procs.length - (k + 1))
                    case measure => omega
                    case rel => exact ⟨k + 1, m + p.active, by omega, rfl, by go_num, rfl, by omega, by omega, hW3.trans (hDw4.mono hW3.size), HN, HJN⟩
              · have HT : Hid (checkF M = (40, 4, (k : Int))) := by unfold Hid; rw [HST.out, HBC.out, hf, hg, hp1, hp2]; rfl
                go_wp2_with fail
                (with_reducible refine (HFR.out _ hW30).mono ?_)
                rintro e w2 ⟨rfl, hBw2⟩
                rw [hf]
                have hEw2 : Below w.heap.size w w2 := hW3w.trans (hBw2.mono hW3w.size)
                have hDw2 : Below W3.heap.size W3 w2 := hBw2
                have hAw2 : Below w0.heap.size w0 w2 := HB0.out.trans (hEw2.mono hsz0)
                clear hBw2
                have c0 := (hDw2.cell (p := ⟨wr.heap.size, 0, none⟩) hzr).trans b0
                have c1 := (hDw2.cell (p := ⟨wr.heap.size, 1, none⟩) hzr).trans b1
                have c2 := (hDw2.cell (p := ⟨wr.heap.size, 2, none⟩) hzr).trans b2
                have c3 := (hDw2.cell (p := ⟨wr.heap.size, 3, none⟩) hzr).trans b3
                have c4 := (hDw2.cell (p := ⟨wr.heap.size, 4, none⟩) hzr).trans b4
                have c5 := (hDw2.cell (p := ⟨wr.heap.size, 5, none⟩) hzr).trans b5
                have c6 := (hDw2.cell (p := ⟨wr.heap.size, 6, none⟩) hzr).trans b6
                have c7 := (hDw2.cell (p := ⟨wr.heap.size, 7, none⟩) hzr).trans b7
                have c8 := (hDw2.cell (p := ⟨wr.heap.size, 8, none⟩) hzr).trans b8
                have c9 := (hDw2.cell (p := ⟨wr.heap.size, 9, none⟩) hzr).trans b9
                go_wp2_with fail
                (with_reducible refine (HGR.out _ hAw2).mono ?_)
                rintro e w3 ⟨rfl, hBw3⟩
                rw [hg]
                have hEw3 : Below w.heap.size w w3 := hEw2.trans (hBw3.mono hEw2.size)
                have hDw3 : Below W3.heap.size W3 w3 := hDw2.trans (hBw3.mono hDw2.size)
                have hAw3 : Below w0.heap.size w0 w3 := HB0.out.trans (hEw3.mono hsz0)
                clear hBw3
                have d0 := (hDw3.cell (p := ⟨wr.heap.size, 0, none⟩) hzr).trans b0
                have d1 := (hDw3.cell (p := ⟨wr.heap.size, 1, none⟩) hzr).trans b1
                have d2 := (hDw3.cell (p := ⟨wr.heap.size, 2, none⟩) hzr).trans b2
                have d3 := (hDw3.cell (p := ⟨wr.heap.size, 3, none⟩) hzr).trans b3
                have d4 := (hDw3.cell (p := ⟨wr.heap.size, 4, none⟩) hzr).trans b4
                have d5 := (hDw3.cell (p := ⟨wr.heap.size, 5, none⟩) hzr).trans b5
                have d6 := (hDw3.cell (p := ⟨wr.heap.size, 6, none⟩) hzr).trans b6
                have d7 := (hDw3.cell (p := ⟨wr.heap.size, 7, none⟩) hzr).trans b7
                have d8 := (hDw3.cell (p := ⟨wr.heap.size, 8, none⟩) hzr).trans b8
                have d9 := (hDw3.cell (p := ⟨wr.heap.size, 9, none⟩) hzr).trans b9
                have t5 := ((hW3.trans (hDw3.mono hW3.size)).cell (p := ⟨w.heap.size, 5, none⟩) hzw).trans K5.out
                have t6 := ((hW3.trans (hDw3.mono hW3.size)).cell (p := ⟨w.heap.size, 6, none⟩) hzw).trans K6.out
                go_wp2_with fail
                go_ret3
                exact ⟨rett (by rw [HT.out]; rfl), hEw3⟩
            · have HT : Hid (checkF M = (40, 4, (k : Int))) := by unfold Hid; rw [HST.out, HBC.out, hf, hg, hp1]; rfl
              go_wp2_with fail
              (with_reducible refine (HFR.out _ hW30).mono ?_)
              rintro e w2 ⟨rfl, hBw2⟩
              rw [hf]
              have hEw2 : Below w.heap.size w w2 := hW3w.trans (hBw2.mono hW3w.size)
              have hDw2 : Below W3.heap.size W3 w2 := hBw2
              have hAw2 : Below w0.heap.size w0 w2 := HB0.out.trans (hEw2.mono hsz0)
              clear hBw2
              have c0 := (hDw2.cell (p := ⟨wr.heap.size, 0, none⟩) hzr).trans b0
              have c1 := (hDw2.cell (p := ⟨wr.heap.size, 1, none⟩) hzr).trans b1
              have c2 := (hDw2.cell (p := ⟨wr.heap.size, 2, none⟩) hzr).trans b2
              have c3 := (hDw2.cell (p := ⟨wr.heap.size, 3, none⟩) hzr).trans b3
              have c4 := (hDw2.cell (p := ⟨wr.heap.size, 4, none⟩) hzr).trans b4
              have c5 := (hDw2.cell (p := ⟨wr.heap.size, 5, none⟩) hzr).trans b5
              have c6 := (hDw2.cell (p := ⟨wr.heap.size, 6, none⟩) hzr).trans b6
              have c7 := (hDw2.cell (p := ⟨wr.heap.size, 7, none⟩) hzr).trans b7
              have c8 := (hDw2.cell (p := ⟨wr.heap.size, 8, none⟩) hzr).trans b8
              have c9 := (hDw2.cell (p := ⟨wr.heap.size, 9, none⟩) hzr).trans b9
              go_wp2_with fail
              (with_reducible refine (HGR.out _ hAw2).mono ?_)
              rintro e w3 ⟨rfl, hBw3⟩
              rw [hg]
              have hEw3 : Below w.heap.size w w3 := hEw2.trans (hBw3.mono hEw2.size)
              have hDw3 : Below W3.heap.size W3 w3 := hDw2.trans (hBw3.mono hDw2.size)
              have hAw3 : Below w0.heap.size w0 w3 := HB0.out.trans (hEw3.mono hsz0)
              clear hBw3
              have d0 := (hDw3.cell (p := ⟨wr.heap.size, 0, none⟩) hzr).trans b0
              have d1 := (hDw3.cell (p := ⟨wr.heap.size, 1, none⟩) hzr).trans b1
              have d2 := (hDw3.cell (p := ⟨wr.heap.size, 2, none⟩) hzr).trans b2
              have d3 := (hDw3.cell (p := ⟨wr.heap.size, 3, none⟩) hzr).trans b3
              have d4 := (hDw3.cell (p := ⟨wr.heap.size, 4, none⟩) hzr).trans b4
              have d5 := (hDw3.cell (p := ⟨wr.heap.size, 5, none⟩) hzr).trans b5
              have d6 := (hDw3.cell (p := ⟨wr.heap.size, 6, none⟩) hzr).trans b6
              have d7 := (hDw3.cell (p := ⟨wr.heap.size, 7, none⟩) hzr).trans b7
              have d8 := (hDw3.cell (p := ⟨wr.heap.size, 8, none⟩) hzr).trans b8
              have d9 := (hDw3.cell (p := ⟨wr.heap.size, 9, none⟩) hzr).trans b9
              have t5 := ((hW3.trans (hDw3.mono hW3.size)).cell (p := ⟨w.heap.size, 5, none⟩) hzw).trans K5.out
              have t6 := ((hW3.trans (hDw3.mono hW3.size)).cell (p := ⟨w.heap.size, 6, none⟩) hzw).trans K6.out
              go_wp2_with fail
              go_ret3
              exact ⟨rett (by rw [HT.out]; rfl), hEw3⟩
      · have HC3 : Hid (checkF M = if 16 < m then (40, 5, -1) else c2F M M.procs.length 0) := by
          unfold Hid
          rw [HC2.out, show M.procs.length - k = 0 by omega]
          rfl
        have HJ3 : Hid (∀ j, j < M.procs.length → (M.procs.getD j default).provided < M.exprs.length) := by
          intro j hj
          have := HJ.out j (by omega)
          unfold badC at this
          simp only [Bool.or_eq_false_iff, decide_eq_false_iff_not] at this
          omega
        have r4 := (hD.cell (p := ⟨w.heap.size, 4, none⟩) hzw).trans K4.out
        clear HJ HC2
        by_cases h16 : 16 < m
        · have HT : Hid (checkF M = (40, 5, -1)) := by unfold Hid; rw [HC3.out, if_pos h16]
          go_wp2_with fail
          go_ret3
          exact ⟨rett (by rw [HT.out]; rfl), hDw⟩
        · have HC4 : Hid (checkF M = c2F M M.procs.length 0) := by unfold Hid; rw [HC3.out, if_neg h16]
          have h16b : decide (16 < m) = false := by simpa using h16
          go_wp2_with fail
          go_loopg [75] M.procs.length (fun gg i wx => ∃ k2 : Nat, k2 ≤ M.procs.length ∧ gg = M.procs.length - k2 ∧ i = .int .i64 k2 ∧ Below W0.heap.size W0 wx ∧ Hid (checkF M = c2F M (M.procs.length - k2) k2))
          case atStart => exact ⟨0, Nat.zero_le _, by omega, rfl, hD, HC4⟩
          case round =>
            obtain ⟨k2, hk2, rfl, rfl, hD2, HC5⟩ := hrel
            have hD2w : Below w.heap.size w wr := hW0.trans (hD2.mono hW0.size)
            by_cases hlt2 : k2 < M.procs.length
            · have HST : Hid (checkF M = if procB M k2 (M.procs.getD k2 default) = true then c2F M (M.procs.length - (k2 + 1)) (k2 + 1) else (40, 6, (k2 : Int))) := by
                unfold Hid
                rw [HC5.out, show M.procs.length - k2 = (M.procs.length - (k2 + 1)) + 1 by omega]
                rfl
              have HP2 := Lib.hid (HPC.out k2 wr _ (HB0.out.trans (hD2w.mono hsz0)) (HCK.out.keep hD2) HX.out hlt2 (HJ3.out k2 hlt2))
              cases ht : procB M k2 (M.procs.getD k2 default)
              all_goals
                go_wp2_with fail
                (with_reducible refine (HP2.out).mono ?_)
                rintro e w2 ⟨rfl, hB2⟩
                rw [ht]
                have hE2 : Below W0.heap.size W0 w2 := hD2.trans (hB2.mono hD2.size)
                have hE2w : Below w.heap.size w w2 := hD2w.trans (hB2.mono hD2w.size)
                clear hB2
              · have HT : Hid (checkF M = (40, 6, (k2 : Int))) := by unfold Hid; rw [HST.out, ht, if_neg (by simp)]
                clear ht
                go_wp2_with fail
                go_ret3
                exact ⟨rett (by rw [HT.out]; rfl), hE2w⟩
              · have HN : Hid (checkF M = c2F M (M.procs.length - (k2 + 1)) (k2 + 1)) := by unfold Hid; rw [HST.out, ht, if_pos rfl]
                clear ht
                go_wp2_with fail
                go_roundg (M.procs.length - (k2 + 1))
                case measure => omega
                case rel => exact ⟨k2 + 1, by omega, rfl, by go_num, hE2, HN⟩
            · have HT : Hid (checkF M = (0, 0, 0)) := by
                unfold Hid
                rw [HC5.out, show M.procs.length - k2 = 0 by omega]
                rfl
              go_wp2_with fail
              go_ret3
              exact ⟨rett (by rw [HT.out]; rfl), hD2w⟩
  · have HT : Hid (checkF M = (40, (tablesF M).1, (tablesF M).2)) := by unfold Hid checkF; rw [if_pos hpos]
    generalize (tablesF M).1 = t1 at *
    generalize (tablesF M).2 = t2 at *
    go_wp2_with fail
    go_ret3
    exact ⟨rett (by rw [HT.out]; rfl), hE1⟩
end Go.Proofs.Ytblpajbacdbgpaa

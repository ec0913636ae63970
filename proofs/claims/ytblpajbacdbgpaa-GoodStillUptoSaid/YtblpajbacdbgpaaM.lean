/-
  Contract of good's graph. Condition: the proctype is laid as data.
-/
import Derived.Test.YtblpajbacdbgpaaL
import Derived.Deep.DeepCutAuto
import Derived.Deep.LoopGhost
namespace Go.Proofs.Ytblpajbacdbgpaa
open Go.ChangeShapes Go.WideShapes Go.ChangeAt Go.RowKit Go.Deep Go.Joins
/-- So many rounds, each of which may end it. -/
def loopO {α : Type} (g : α → Nat → Option α) (a : α) : Nat → Option α
  | 0 => some a
  | n + 1 => (loopO g a n).bind fun x => g x n
theorem loopO_none {α : Type} {g : α → Nat → Option α} {a : α} {k n : Nat} (h : loopO g a k = none) (hk : k ≤ n) : loopO g a n = none := by
  induction n with
  | zero => obtain rfl : k = 0 := by omega
            exact h
  | succ n ih =>
    by_cases e : k = n + 1
    · rw [← e]; exact h
    · unfold loopO; rw [ih (by omega)]; rfl
theorem loopO_some {α : Type} {g : α → Nat → Option α} {a x y : α} {k : Nat} (h : loopO g a k = some x) (hg : g x k = some y) : loopO g a (k + 1) = some y := by
  unfold loopO; rw [h]; exact hg
theorem loopO_fail {α : Type} {g : α → Nat → Option α} {a x : α} {k n : Nat} (h : loopO g a k = some x) (hg : g x k = none) (hk : k < n) : loopO g a n = none :=
  loopO_none (k := k + 1) (by unfold loopO; rw [h]; exact hg) hk
def toF (n : Nat) (t : TrD) : Bool := decide (0 ≤ t.to ∧ t.to < n)
def wayG (n : Nat) (L : List EsD) (many k : Nat) : Option Nat :=
  if (decide (0 < k) && decide ((L.getD k default).l.length = 0)) = true then none else if 1024 < many + (L.getD k default).l.length then none else if (L.getD k default).l.all (toF n) = true then some (many + (L.getD k default).l.length) else none
def badF (p : PrD) (i : Nat) (l : LoD) : Bool := decide (8 < l.esc.length) || (l.dstep && l.atomic) || (decide ((i : Int) = p.final) && decide (0 < l.out.length + l.esc.length))
def locG (p : PrD) (many i : Nat) : Option Nat :=
  if badF p i (p.locs.getD i default) = true then none else loopO (wayG p.locs.length (waysL (p.locs.getD i default))) many (waysL (p.locs.getD i default)).length
def graphG (p : PrD) : Bool := decide (1 ≤ p.locs.length ∧ p.locs.length ≤ 256 ∧ 0 ≤ p.start ∧ p.start < p.locs.length ∧ 0 ≤ p.final ∧ p.final < p.locs.length)
def graphF (p : PrD) : Bool := graphG p && (loopO (locG p) 0 p.locs.length).isSome
set_option maxHeartbeats 4000000 in
set_option maxRecDepth 100000 in
theorem graph_any (p : PrD) (w : World) (h : p.ok w) :
    Calls Try.prog 16 #[p.val] w fun e w' => e = .returned (.bool (graphF p)) ∧ Below w.heap.size w w' := by
  obtain ⟨-, -, -, -, -, -, hf, hfz, hin, -, -, hl, hlq, hlz⟩ := h
  obtain ⟨af, capf, hvf, -, -, -⟩ := hf
  obtain ⟨ai, capi, hvi, -, -, -⟩ := hin
  obtain ⟨al, capl, hvl, -, -, hcell⟩ := hl
  unfold PrD.val
  rw [hvf, hvi, hvl]
  clear hvf hvi hvl
  have HC := Lib.hid hcell; clear hcell
  have HQ := Lib.hid hlq; clear hlq
  by_cases hg : 1 ≤ p.locs.length ∧ p.locs.length ≤ 256 ∧ 0 ≤ p.start ∧ p.start < p.locs.length ∧ 0 ≤ p.final ∧ p.final < p.locs.length
  · have HG : Hid (graphF p = (loopO (locG p) 0 p.locs.length).isSome) := by unfold Hid graphF graphG; simp [hg]
    obtain ⟨g1, g2, g3, g4, g5, g6⟩ := hg
    have hb1 : decide ((p.locs.length : Int) < 1) = false := by simp; omega
    have hb2 : decide ((256 : Int) < p.locs.length) = false := by simp; omega
    have hb3 : decide (p.start < 0) = false := by simp; omega
    have hb4 : decide ((p.locs.length : Int) ≤ p.start) = false := by simp; omega
    have hb5 : decide (p.final < 0) = false := by simp; omega
    have hb6 : decide ((p.locs.length : Int) ≤ p.final) = false := by simp; omega
    go_enter Try.func16, Try.ntmps16
    go_wp2_with fail
    generalize hbx : w.alloc (.cells #[.string p.name, .int .i64 p.params, .slice af p.frame.length capf, .slice ai p.init.length capi, .slice al p.locs.length capl, .int .i64 p.start, .int .i64 p.final, .int .i64 p.active, .int .i64 p.prio, .int .i64 p.provided] 47) = W0 at *
    have hW0 : Below w.heap.size w W0 := by rw [← hbx]; go_grown
    have hz0 : W0.heap.size = w.heap.size + 1 := by rw [← hbx]; simp
    have k6 : W0.cell? ⟨w.heap.size, 6, none⟩ = some (.int .i64 p.final) := by rw [← hbx]; simp [go_sem]
    clear hbx
    have HZ := Lib.hid hz0; clear hz0
    have HK6 := Lib.hid k6; clear k6
    go_loopg [45, 4] p.locs.length (fun gg i many wr => ∃ k m : Nat, k ≤ p.locs.length ∧ gg = p.locs.length - k ∧ i = .int .i64 k ∧ many = .int .i64 m ∧ m ≤ 1024 ∧ Below W0.heap.size W0 wr ∧ Hid (loopO (locG p) 0 k = some m))
    case atStart => exact ⟨0, 0, Nat.zero_le _, by omega, rfl, rfl, by omega, Below.refl _ _, rfl⟩
    case round =>
      obtain ⟨k, m, hk, rfl, rfl, rfl, hm, hB, hS⟩ := hrel
      have hBw : Below w.heap.size w wr := hW0.trans (hB.mono (by have := HZ.out; omega))
      have hsz := hBw.size
      have hsz1 : w.heap.size < wr.heap.size := by have := hB.size; have := HZ.out; omega
      by_cases hlt : k < p.locs.length
      · obtain ⟨b, off, rfl, hbs, hc⟩ := HC.out (by omega)
        have c0 := (hBw.cell (p := ⟨b, off + k * 7 + 0, none⟩) hbs).trans (hc k hlt 0 (by omega))
        have c1 := (hBw.cell (p := ⟨b, off + k * 7 + 1, none⟩) hbs).trans (hc k hlt 1 (by omega))
        have c2 := (hBw.cell (p := ⟨b, off + k * 7 + 2, none⟩) hbs).trans (hc k hlt 2 (by omega))
        have c3 := (hBw.cell (p := ⟨b, off + k * 7 + 3, none⟩) hbs).trans (hc k hlt 3 (by omega))
        have c4 := (hBw.cell (p := ⟨b, off + k * 7 + 4, none⟩) hbs).trans (hc k hlt 4 (by omega))
        have c5 := (hBw.cell (p := ⟨b, off + k * 7 + 5, none⟩) hbs).trans (hc k hlt 5 (by omega))
        have c6 := (hBw.cell (p := ⟨b, off + k * 7 + 6, none⟩) hbs).trans (hc k hlt 6 (by omega))
        have k6 := (hB.cell (p := ⟨w.heap.size, 6, none⟩) (show w.heap.size < W0.heap.size by have := HZ.out; omega)).trans HK6.out
        simp only [LoD.enc, Nat.add_zero] at c0 c1 c2 c3 c4 c5 c6
        clear hc
        have HOK := Lib.hid (HQ.out _ (getD_mem hlt))
        have HL : Hid (locG p m k = if badF p k (p.locs.getD k default) = true then none else loopO (wayG p.locs.length (waysL (p.locs.getD k default))) m (waysL (p.locs.getD k default)).length) := rfl
        generalize p.locs.getD k default = t at *
        obtain ⟨⟨ao, capo, hvo, -, -, -⟩, -, hoz, ⟨ae, cape, hve, -, -, -⟩, -, -, hez⟩ := HOK.out
        rw [hvo] at c0
        rw [hve] at c1
        have HV := Lib.hid (show LoD.val t = .agg #[.slice ao t.out.length capo, .slice ae t.esc.length cape, .bool t.atomic, .bool t.dstep, .bool t.e, .bool t.acc, .bool t.pro] by unfold LoD.val; rw [hvo, hve])
        clear hvo hve
        go_upto_region 8 with fail
        go_cut [77] (fun s77 wx => s77 = .bool (badF p k t) ∧ wx = wr.alloc (.cells #[.slice ao t.out.length capo, .slice ae t.esc.length cape, .bool t.atomic, .bool t.dstep, .bool t.e, .bool t.acc, .bool t.pro] 60))
        case first =>
          cases hkf : ((k : Int) == p.final)
          all_goals
            have hkf2 := hkf
            simp only [beq_iff_eq, beq_eq_false_iff_ne, ne_eq] at hkf2
            have HKF := Lib.hid hkf2
            clear hkf2
            go_wp2_with fail
            all_goals
              go_meet
              refine ⟨?_, ?_⟩
              · have := HKF.out
                unfold badF
                simp [*]
                try omega
                try (rw [Bool.eq_iff_iff]; simp; omega)
              · simp [*]
        case rest =>
          obtain ⟨rfl, rfl⟩ := hcut
          clear c0 c1 c2 c3 c4 c5 c6 k6
          have HWY : Hid (∀ W, Below w.heap.size w W → Calls Try.prog 23 #[.agg #[.slice ao t.out.length capo, .slice ae t.esc.length cape, .bool t.atomic, .bool t.dstep, .bool t.e, .bool t.acc, .bool t.pro]] W (WaysPost t W)) := by
            intro W hBW
            have := ways_any t w W HOK.out hBW
            rw [HV.out] at this
            exact this
          by_cases hbad : badF p k t = true
          · have HN : Hid (loopO (locG p) 0 p.locs.length = none) := loopO_fail hS.out (by rw [HL.out, if_pos hbad]) hlt
            rw [hbad]
            clear hbad
            go_wp2
            go_ret
            exact ⟨retb (by rw [HG.out, HN.out]; rfl), by go_grown⟩
          · have hbad2 : badF p k t = false := by simpa using hbad
            have HL2 : Hid (locG p m k = loopO (wayG p.locs.length (waysL t)) m (waysL t).length) := by
              unfold Hid
              rw [HL.out, if_neg hbad]
            rw [hbad2]
            clear hbad hbad2 HL
            have HLok : Hid (∀ y ∈ waysL t, y.ok w) := by
              intro y hy
              unfold waysL at hy
              rw [List.mem_cons] at hy
              rcases hy with rfl | hy
              · exact ⟨HOK.out.ov, HOK.out.out, HOK.out.oz⟩
              · exact HOK.out.esc y hy
            have hLz : (waysL t).length ≤ 1048577 := by
              show t.esc.length + 1 ≤ _
              omega
            go_wp2_with fail
            refine (HWY.out _ (hBw.alloc hsz _)).mono ?_
            rintro e w1 ⟨v, rfl, hsl, hB1⟩
            have hBw1 : Below w.heap.size w w1 := (hBw.alloc hsz _).trans (hB1.mono (by simp; omega))
            have hB01 : Below W0.heap.size W0 w1 := (hB.alloc hB.size _).trans (hB1.mono (by simp; have := hB.size; omega))
            clear hB1 HWY
            obtain ⟨av, cv, rfl, -, -, hcv⟩ := hsl
            have HCV := Lib.hid hcv; clear hcv
            generalize waysL t = L at *
            go_wp2_with fail
            go_loopg [81, 4] L.length (fun gg i many wx => ∃ k2 m2 : Nat, k2 ≤ L.length ∧ gg = L.length - k2 ∧ i = .int .i64 k2 ∧ many = .int .i64 m2 ∧ m2 ≤ 1024 ∧ Below w1.heap.size w1 wx ∧ Hid (loopO (wayG p.locs.length L) m k2 = some m2))
            case atStart => exact ⟨0, m, Nat.zero_le _, by omega, rfl, rfl, by omega, Below.refl _ _, rfl⟩
            case round =>
              obtain ⟨k2, m2, hk2, rfl, rfl, rfl, hm2, hB2, hS2⟩ := hrel
              by_cases hlt2 : k2 < L.length
              · obtain ⟨bv, offv, rfl, hbv, hcv⟩ := HCV.out (by omega)
                have d0 := (hB2.cell (p := ⟨bv, offv + k2 * 1 + 0, none⟩) hbv).trans (hcv k2 hlt2 0 (by omega))
                simp only [EsD.enc, Nat.mul_one, Nat.add_zero] at d0
                clear hcv
                have HY := Lib.hid (HLok.out _ (getD_mem hlt2))
                have HG2 : Hid (wayG p.locs.length L m2 k2 = if (decide (0 < k2) && decide ((L.getD k2 default).l.length = 0)) = true then none else if 1024 < m2 + (L.getD k2 default).l.length then none else if (L.getD k2 default).l.all (toF p.locs.length) = true then some (m2 + (L.getD k2 default).l.length) else none) := rfl
                generalize L.getD k2 default = y at *
                obtain ⟨⟨ay, capy, hvy, -, -, hcy⟩, -, hyz⟩ := HY.out
                rw [hvy] at d0
                have HCY := Lib.hid hcy
                clear hvy hcy
                have hBw2 : Below w.heap.size w wr := hBw1.trans (hB2.mono hBw1.size)
                have hsz2 := hBw2.size
                go_upto_region 13 with fail
                go_cut [92] (fun s92 wx => s92 = .bool (decide (0 < k2) && decide (y.l.length = 0)) ∧ wx = wr)
                case first =>
                  cases hk0 : decide (0 < (k2 : Int))
                  all_goals
                    have hk0' := hk0
                    simp only [decide_eq_true_eq, decide_eq_false_iff_not] at hk0'
                    have HK0 := Lib.hid hk0'
                    clear hk0'
                    go_wp2_with fail
                    all_goals
                      go_meet
                      refine ⟨?_, rfl⟩
                      have := HK0.out
                      simp [*]
                      try omega
                      try (rw [Bool.eq_iff_iff]; first | (simp; done) | (simp; omega))
                case rest =>
                  obtain ⟨rfl, rfl⟩ := hcut
                  by_cases hc1 : (decide (0 < k2) && decide (y.l.length = 0)) = true
                  · have HN : Hid (loopO (locG p) 0 p.locs.length = none) :=
                      loopO_fail hS.out (by rw [HL2.out]; exact loopO_fail hS2.out (by rw [HG2.out, if_pos hc1]) hlt2) hlt
                    rw [hc1]
                    clear hc1
                    go_wp2
                    go_ret
                    exact ⟨retb (by rw [HG.out, HN.out]; rfl), hBw2⟩
                  · have hc2 : (decide (0 < k2) && decide (y.l.length = 0)) = false := by simpa using hc1
                    have HG3 : Hid (wayG p.locs.length L m2 k2 = if 1024 < m2 + y.l.length then none else if y.l.all (toF p.locs.length) = true then some (m2 + y.l.length) else none) := by
                      unfold Hid
                      rw [HG2.out, if_neg hc1]
                    rw [hc2]
                    clear hc1 hc2 HG2
                    by_cases h1024 : 1024 < m2 + y.l.length
                    · have HN : Hid (loopO (locG p) 0 p.locs.length = none) :=
                        loopO_fail hS.out (by rw [HL2.out]; exact loopO_fail hS2.out (by rw [HG3.out, if_pos h1024]) hlt2) hlt
                      have h1 : decide ((1024 : Int) < (m2 : Int) + (y.l.length : Int)) = true := by simp; omega
                      go_wp2
                      go_ret
                      exact ⟨retb (by rw [HG.out, HN.out]; rfl), hBw2⟩
                    · have HG4 : Hid (wayG p.locs.length L m2 k2 = if y.l.all (toF p.locs.length) = true then some (m2 + y.l.length) else none) := by
                        unfold Hid
                        rw [HG3.out, if_neg h1024]
                      clear HG3
                      have h1 : decide ((1024 : Int) < (m2 : Int) + (y.l.length : Int)) = false := by simp; omega
                      go_wp2_with fail
                      go_loopg [101] y.l.length (fun gg i wx => ∃ k3 : Nat, k3 ≤ y.l.length ∧ gg = y.l.length - k3 ∧ i = .int .i64 k3 ∧ Below w1.heap.size w1 wx ∧ Hid ((y.l.take k3).all (toF p.locs.length) = true))
                      case atStart => exact ⟨0, Nat.zero_le _, by omega, rfl, hB2, rfl⟩
                      case round =>
                        obtain ⟨k3, hk3, rfl, rfl, hB3, hS3⟩ := hrel
                        have hBw3 : Below w.heap.size w wr := hBw1.trans (hB3.mono hBw1.size)
                        have hsz3 := hBw3.size
                        have hsz31 := hB3.size
                        by_cases hlt3 : k3 < y.l.length
                        · obtain ⟨by_, offy, rfl, hby, hcy⟩ := HCY.out (by omega)
                          have f0 := (hBw3.cell (p := ⟨by_, offy + k3 * 9 + 0, none⟩) hby).trans (hcy k3 hlt3 0 (by omega))
                          have f1 := (hBw3.cell (p := ⟨by_, offy + k3 * 9 + 1, none⟩) hby).trans (hcy k3 hlt3 1 (by omega))
                          have f2 := (hBw3.cell (p := ⟨by_, offy + k3 * 9 + 2, none⟩) hby).trans (hcy k3 hlt3 2 (by omega))
                          have f3 := (hBw3.cell (p := ⟨by_, offy + k3 * 9 + 3, none⟩) hby).trans (hcy k3 hlt3 3 (by omega))
                          have f4 := (hBw3.cell (p := ⟨by_, offy + k3 * 9 + 4, none⟩) hby).trans (hcy k3 hlt3 4 (by omega))
                          have f5 := (hBw3.cell (p := ⟨by_, offy + k3 * 9 + 5, none⟩) hby).trans (hcy k3 hlt3 5 (by omega))
                          have f6 := (hBw3.cell (p := ⟨by_, offy + k3 * 9 + 6, none⟩) hby).trans (hcy k3 hlt3 6 (by omega))
                          have f7 := (hBw3.cell (p := ⟨by_, offy + k3 * 9 + 7, none⟩) hby).trans (hcy k3 hlt3 7 (by omega))
                          have f8 := (hBw3.cell (p := ⟨by_, offy + k3 * 9 + 8, none⟩) hby).trans (hcy k3 hlt3 8 (by omega))
                          simp only [TrD.enc, Nat.add_zero] at f0 f1 f2 f3 f4 f5 f6 f7 f8
                          clear hcy
                          obtain ⟨-, -, -, -, -, -, -, ⟨a4, cp4, hv4, -, -, -⟩, -, -, -, ⟨a5, cp5, hv5, -, -, -⟩, -, -⟩ := HY.out.2.1 _ (getD_mem hlt3)
                          have HS := Lib.hid (all_step hS3.out hlt3)
                          have HF := Lib.hid (all_fail (p := toF p.locs.length) hlt3)
                          generalize y.l.getD k3 default = z at *
                          rw [hv4] at f4
                          rw [hv5] at f5
                          clear hv4 hv5
                          by_cases ht : 0 ≤ z.to ∧ z.to < p.locs.length
                          · have HN := Lib.hid (HS.out (by unfold toF; simpa using ht))
                            obtain ⟨t1, t2⟩ := ht
                            go_wp2_with fail
                            go_roundg (y.l.length - (k3 + 1))
                            case measure => omega
                            case rel => exact ⟨k3 + 1, by omega, rfl, by go_num, by go_grown, HN⟩
                          · have HN : Hid (loopO (locG p) 0 p.locs.length = none) :=
                              loopO_fail hS.out (by
                                rw [HL2.out]
                                refine loopO_fail hS2.out ?_ hlt2
                                rw [HG4.out, if_neg]
                                rw [HF.out (by unfold toF; simpa using ht)]
                                simp) hlt
                            by_cases t1 : z.to < 0
                            · go_wp2_with fail
                              go_ret
                              exact ⟨retb (by rw [HG.out, HN.out]; rfl), by go_grown⟩
                            · have t2 : (p.locs.length : Int) ≤ z.to := by omega
                              go_wp2_with fail
                              go_ret
                              exact ⟨retb (by rw [HG.out, HN.out]; rfl), by go_grown⟩
                        · have HN : Hid (loopO (wayG p.locs.length L) m (k2 + 1) = some (m2 + y.l.length)) := loopO_some hS2.out (by rw [HG4.out, if_pos (all_end hS3.out hlt3)])
                          go_wp2_with fail
                          go_roundg (L.length - (k2 + 1))
                          case measure => omega
                          case rel => exact ⟨k2 + 1, m2 + y.l.length, by omega, rfl, by go_num, by go_num, by omega, hB3, HN⟩
              · obtain rfl : k2 = L.length := by omega
                have HN : Hid (loopO (locG p) 0 (k + 1) = some m2) := loopO_some hS.out (by rw [HL2.out]; exact hS2.out)
                go_wp2_with fail
                go_roundg (p.locs.length - (k + 1))
                case measure => omega
                case rel => exact ⟨k + 1, m2, by omega, rfl, by go_num, rfl, hm2, hB01.trans (hB2.mono hB01.size), HN⟩
      · obtain rfl : k = p.locs.length := by omega
        go_wp2_with fail
        go_ret
        exact ⟨retb (by rw [HG.out, hS.out]; rfl), hBw⟩
  · have HG : Hid (graphF p = false) := by unfold Hid graphF graphG; simp only [Bool.and_eq_false_iff, decide_eq_false_iff_not]; exact .inl hg
    go_enter Try.func16, Try.ntmps16
    go_wp2_with fail
    all_goals first
      | (go_ret; exact ⟨retb HG.out.symm, by go_grown⟩)
      | (exfalso; omega)
end Go.Proofs.Ytblpajbacdbgpaa

/-
  Contracts of good's frame, claimed, ways, graph. Conditions: the proctype is laid as data.
-/
import Derived.Test.YtblpajbacdbgpaaJ
namespace Go.Proofs.Ytblpajbacdbgpaa
open Go.ChangeShapes Go.WideShapes Go.ChangeAt Go.RowKit Go.Deep Go.Joins
def PrD.val (p : PrD) : Value := .agg #[.string p.name, .int .i64 p.params, p.fv, p.iv, p.lv, .int .i64 p.start, .int .i64 p.final, .int .i64 p.active, .int .i64 p.prio, .int .i64 p.provided]
def frameF (p : PrD) : Bool := decide (p.frame.length ≤ 128 ∧ p.init.length = p.frame.length) && decide (typesF p.frame p.init < 0) && decide (0 ≤ p.params ∧ p.params ≤ p.frame.length ∧ 0 ≤ p.active ∧ p.active ≤ 16 ∧ 1 ≤ p.prio ∧ p.prio ≤ 255)
set_option maxHeartbeats 1000000 in
theorem frame_any (p : PrD) (w : World) (h : p.ok w) :
    Calls Try.prog 15 #[p.val] w fun e w' => e = .returned (.bool (frameF p)) ∧ Below w.heap.size w w' := by
  obtain ⟨-, -, -, -, -, -, hf, hfz, hi, -, hiz, -, -, -⟩ := h
  have HT : Hid (∀ W, Below w.heap.size w W → p.init.length = p.frame.length → Calls Try.prog 19 #[p.fv, p.iv] W fun e w' => e = .returned (.int .i64 (typesF p.frame p.init)) ∧ Below W.heap.size W w') :=
    fun W hB hl => types_any _ _ _ _ _ (hf.keep hB) (hi.keep hB) hl.symm hfz
  obtain ⟨ad, cap, hv, -, -, -⟩ := hf
  obtain ⟨ai, capi, hvi, -, -, -⟩ := hi
  unfold PrD.val
  rw [hv, hvi] at HT ⊢
  clear hv hvi
  by_cases h1 : p.frame.length ≤ 128
  · by_cases h2 : p.init.length = p.frame.length
    · have H2 := Lib.hid h2
      have h3 : ((p.init.length : Int) == (p.frame.length : Int)) = true := by simp [h2]
      clear h2
      by_cases ht : typesF p.frame p.init < 0
      · have HG : Hid (frameF p = decide (0 ≤ p.params ∧ p.params ≤ p.frame.length ∧ 0 ≤ p.active ∧ p.active ≤ 16 ∧ 1 ≤ p.prio ∧ p.prio ≤ 255)) := by
          unfold Hid frameF; simp only [h1, H2.out, ht, decide_true, Bool.true_and, and_self]
        go_enter Try.func15, Try.ntmps15
        go_wp2_with fail
        (with_reducible refine (HT.out _ ((Below.refl _ _).alloc (Nat.le_refl _) _) H2.out).mono ?_)
        rintro e w2 ⟨rfl, hb2⟩
        have hB2 : Below w.heap.size w w2 := ((Below.refl _ _).alloc (Nat.le_refl _) _).trans (hb2.mono (by simp))
        have hz2 : w.heap.size < w2.heap.size := by have := hb2.size; simp at this; omega
        have hc2 := bcell hb2
        clear hb2
        go_wp2
        all_goals
          go_ret
          refine ⟨retb ?_, hB2⟩
          rw [HG.out]
          refine Bool.eq_iff_iff.2 ?_
          simp [*]
          try omega
      · have HG : Hid (frameF p = false) := by
          unfold Hid frameF; simp [ht]
        have ht2 : 0 ≤ typesF p.frame p.init := by omega
        clear ht
        go_enter Try.func15, Try.ntmps15
        go_wp2_with fail
        (with_reducible refine (HT.out _ ((Below.refl _ _).alloc (Nat.le_refl _) _) H2.out).mono ?_)
        rintro e w2 ⟨rfl, hb2⟩
        have hB2 : Below w.heap.size w w2 := ((Below.refl _ _).alloc (Nat.le_refl _) _).trans (hb2.mono (by simp))
        clear hb2
        go_wp2
        go_ret
        exact ⟨retb HG.out.symm, hB2⟩
    · have HG : Hid (frameF p = false) := by
        unfold Hid frameF; simp [h2]
      have h3 : ((p.init.length : Int) == (p.frame.length : Int)) = false := by simp; omega
      go_enter Try.func15, Try.ntmps15
      go_wp2_with fail
      go_ret
      exact ⟨retb HG.out.symm, by go_grown⟩
  · have HG : Hid (frameF p = false) := by
      unfold Hid frameF; simp [h1]
    go_enter Try.func15, Try.ntmps15
    go_wp2_with fail
    go_ret
    exact ⟨retb HG.out.symm, by go_grown⟩
def claimedF (p : PrD) : Bool := decide (p.frame.length = 0 ∧ p.params ≤ 0 ∧ p.active ≤ 0 ∧ p.provided = -1) && p.locs.all fun l => decide (l.esc.length = 0) && !l.atomic && !l.dstep
set_option maxHeartbeats 1000000 in
theorem claimed_any (p : PrD) (w : World) (h : p.ok w) :
    Calls Try.prog 17 #[p.val] w fun e w' => e = .returned (.bool (claimedF p)) ∧ Below w.heap.size w w' := by
  obtain ⟨-, -, -, -, -, -, hf, hfz, -, -, -, hl, hlq, hlz⟩ := h
  obtain ⟨ad, cap, hv, -, -, -⟩ := hf
  obtain ⟨al, capl, hvl, -, -, hcell⟩ := hl
  unfold PrD.val
  rw [hv, hvl]
  clear hv hvl
  have HC := Lib.hid hcell; clear hcell
  have HQ := Lib.hid hlq; clear hlq
  by_cases hg : p.frame.length = 0 ∧ p.params ≤ 0 ∧ p.active ≤ 0 ∧ p.provided = -1
  · have HG : Hid (claimedF p = p.locs.all fun l => decide (l.esc.length = 0) && !l.atomic && !l.dstep) := by unfold Hid claimedF; simp [hg]
    obtain ⟨g1, g2, g3, g4⟩ := hg
    have g1' : p.frame = [] := List.length_eq_zero_iff.1 g1
    have g4' : (p.provided != -1) = false := by simp [g4]
    clear g1 g4
    go_enter Try.func17, Try.ntmps17
    go_wp2
    go_loopw [27] (fun i wr => ∃ k : Nat, k ≤ p.locs.length ∧ i = .int .i64 k ∧ Below w.heap.size w wr ∧ Hid ((p.locs.take k).all (fun l => decide (l.esc.length = 0) && !l.atomic && !l.dstep) = true)) (fun i _ => p.locs.length - (intOf i).toNat)
    case atStart => exact ⟨0, Nat.zero_le _, rfl, by go_grown, rfl⟩
    case round =>
      obtain ⟨k, hk, rfl, hB0, hS⟩ := hrel
      have hsz := hB0.size
      by_cases hlt : k < p.locs.length
      · obtain ⟨b, off, rfl, hbs, hc⟩ := HC.out (by omega)
        have c0 := (hB0.cell (p := ⟨b, off + k * 7 + 0, none⟩) hbs).trans (hc k hlt 0 (by omega))
        have c1 := (hB0.cell (p := ⟨b, off + k * 7 + 1, none⟩) hbs).trans (hc k hlt 1 (by omega))
        have c2 := (hB0.cell (p := ⟨b, off + k * 7 + 2, none⟩) hbs).trans (hc k hlt 2 (by omega))
        have c3 := (hB0.cell (p := ⟨b, off + k * 7 + 3, none⟩) hbs).trans (hc k hlt 3 (by omega))
        have c4 := (hB0.cell (p := ⟨b, off + k * 7 + 4, none⟩) hbs).trans (hc k hlt 4 (by omega))
        have c5 := (hB0.cell (p := ⟨b, off + k * 7 + 5, none⟩) hbs).trans (hc k hlt 5 (by omega))
        have c6 := (hB0.cell (p := ⟨b, off + k * 7 + 6, none⟩) hbs).trans (hc k hlt 6 (by omega))
        simp only [LoD.enc, Nat.add_zero] at c0 c1 c2 c3 c4 c5 c6
        clear hc
        obtain ⟨⟨ao, capo, hvo, -, -, -⟩, -, -, hev, -, -, -⟩ := HQ.out _ (getD_mem hlt)
        rw [hvo] at c0
        clear hvo
        have HS := Lib.hid (all_step hS.out hlt)
        have HF := Lib.hid (all_fail (p := fun l : LoD => decide (l.esc.length = 0) && !l.atomic && !l.dstep) hlt)
        generalize p.locs.getD k default = t at *
        obtain ⟨ae, cape, hve, -, -, -⟩ := hev
        rw [hve] at c1
        clear hve
        by_cases ht : (decide (t.esc.length = 0) && !t.atomic && !t.dstep) = true
        · have HN := Lib.hid (HS.out ht)
          simp only [Bool.and_eq_true, decide_eq_true_eq, Bool.not_eq_true'] at ht
          obtain ⟨⟨t1, t2⟩, t3⟩ := ht
          rw [t2] at c2
          rw [t3] at c3
          have t1' : t.esc = [] := List.length_eq_zero_iff.1 t1
          clear t1 t2 t3
          go_wp2
          go_roundw
          case rel => exact ⟨k + 1, by omega, by go_num, by go_grown, HN⟩
          case measure => simp [intOf]; omega
        · have ht2 : (decide (t.esc.length = 0) && !t.atomic && !t.dstep) = false := by simpa using ht
          have HN := Lib.hid (HF.out ht2)
          clear ht
          by_cases t1 : 0 < t.esc.length
          · have t1' : ¬ t.esc = [] := fun h => by rw [h] at t1; exact absurd t1 (by simp)
            clear ht2
            go_wp2
            go_ret
            exact ⟨retb (by rw [HG.out, HN.out]), by go_grown⟩
          · have t1' : t.esc.length = 0 := by omega
            rw [t1'] at ht2
            have t2' : t.esc = [] := List.length_eq_zero_iff.1 t1'
            clear t1'
            cases hat : t.atomic
            · cases hds : t.dstep
              · rw [hat, hds] at ht2; exact absurd ht2 (by simp)
              · rw [hat] at c2
                rw [hds] at c3
                clear hat hds ht2
                go_wp2
                go_ret
                exact ⟨retb (by rw [HG.out, HN.out]), by go_grown⟩
            · rw [hat] at c2
              clear hat ht2
              go_wp2
              go_ret
              exact ⟨retb (by rw [HG.out, HN.out]), by go_grown⟩
      · go_wp2
        go_ret
        refine ⟨retb ?_, hB0⟩
        rw [HG.out]
        exact (all_end hS.out hlt).symm
  · have HG : Hid (claimedF p = false) := by
      unfold Hid claimedF; simp only [Bool.and_eq_false_iff, decide_eq_false_iff_not]; exact .inl hg
    have hg2 : ¬ p.frame = [] ∨ 0 < p.params ∨ 0 < p.active ∨ (p.provided != -1) = true := by
      rw [← List.length_eq_zero_iff]
      simp only [bne_iff_ne, ne_eq]; omega
    go_enter Try.func17, Try.ntmps17
    clear hg
    rcases hg2 with g | g | g | g
    all_goals
      go_wp2
      all_goals first
        | (go_ret; exact ⟨retb HG.out.symm, by go_grown⟩)
        | (exfalso; simp_all; done)
end Go.Proofs.Ytblpajbacdbgpaa

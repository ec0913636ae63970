/-
  Contracts of good's matched, places, place, empty, slots. Conditions: the model is laid as data; the checker's cells.
-/
import Derived.Test.YtblpajbacdbgpaaJ
namespace Go.Proofs.Ytblpajbacdbgpaa
open Go.ChangeShapes Go.WideShapes Go.ChangeAt Go.RowKit Go.Deep Go.Joins
theorem below_drewN {B : Nat} {a w : World} (h : Below B a w) (n : Nat) : Below B a (w.drewN n) := h.trans ⟨rfl, rfl, rfl, Nat.le_refl _, fun _ _ => rfl⟩
theorem quiet_left {P : Program} {f : FuncId} {args : Array Value} {w : World} {n : Nat} {v : Value}
    (h : Calls P f args (w.drewN n) fun e w' => e = .returned v ∧ w.drewN n = w') : Calls P f args (w.drewN n) fun e w'' => e = .returned v ∧ ∃ m, w'' = w.drewN m :=
  h.mono fun _ _ ⟨he, hm⟩ => ⟨he, n, hm.symm⟩
/-- Nothing but draws. -/
def Dr (w w' : World) : Prop := ∃ n, w' = w.drewN n
theorem Dr.refl (w : World) : Dr w w := ⟨0, rfl⟩
theorem Dr.step {w w' : World} (h : Dr w w') (n : Nat) : Dr w (w'.drewN n) := by
  obtain ⟨m, rfl⟩ := h
  exact ⟨m + n, World.drewN_drewN _ _ _⟩
theorem Dr.cell {w w' : World} (h : Dr w w') (a : Addr) : w'.cell? a = w.cell? a := by
  obtain ⟨m, rfl⟩ := h
  rfl
theorem Dr.below {w w' : World} (h : Dr w w') : Below w.heap.size w w' := by
  obtain ⟨m, rfl⟩ := h
  exact below_drewN (Below.refl _ _) m
def opAt (M : MoD) (a : Int) : Int := (M.exprs.getD a.toNat default).op
def scAt (M : MoD) (a : Int) : Int := (M.exprs.getD a.toNat default).scope
def matB (M : MoD) (a k : Int) : Bool := decide (-1 ≤ k ∧ k ≤ 1) && !((k == 0) && (opAt M a != 2))
def matchedF (M : MoD) (a : Int) (args mat : List Int) : Bool :=
  decide (1 ≤ args.length ∧ args.length ≤ 8 ∧ mat.length = args.length) && belowF a args && (List.range mat.length).all fun i => matB M (args.getD i default) (mat.getD i default)
theorem range_step {p : Nat → Bool} {k : Nat} (h : (List.range k).all p = true) (hp : p k = true) : (List.range (k + 1)).all p = true := by
  rw [List.range_succ, List.all_append, h]; simp [hp]
theorem range_fail {p : Nat → Bool} {k n : Nat} (hk : k < n) (hp : p k = false) : (List.range n).all p = false := by
  rw [List.all_eq_false]
  exact ⟨k, List.mem_range.2 hk, by simp [hp]⟩
set_option maxHeartbeats 2000000 in
theorem matched_any (M : MoD) (w0 : World) (hM : M.ok w0) (b : Nat) (a : Int) (va vm : Value) (args mat : List Int) (w : World) (hB : Below w0.heap.size w0 w) (hk : Ck w b M) (ha : Sl w 1 iEnc va args) (hm : Sl w 1 iEnc vm mat) (hle : a ≤ M.exprs.length) (hz : args.length ≤ 1048576) :
    Calls Try.prog 29 #[.pointer (some ⟨b, 0, none⟩), .int .i64 a, va, vm] w fun e w' => e = .returned (.bool (matchedF M a args mat)) ∧ Dr w w' := by
  have HBL := Lib.hid (fun W => below_any a va args W)
  have HSL := Lib.hid ha
  have c6 := hk.c6
  obtain ⟨ax, cx, hxv, -, -, hcx⟩ := hM.xv
  have hxz := hM.xz
  rw [hxv] at c6
  obtain ⟨aa, ca, rfl, -, -, hca⟩ := ha
  obtain ⟨am, cm, rfl, -, -, hcm⟩ := hm
  have HX := Lib.hid hcx; clear hcx
  have HA := Lib.hid hca; clear hca
  have HMM := Lib.hid hcm; clear hcm
  have HBw := Lib.hid hB; clear hB
  have hbl := hk.lt
  clear hk hM hxv
  by_cases h1 : 1 ≤ args.length ∧ args.length ≤ 8
  · obtain ⟨h1a, h1b⟩ := h1
    by_cases h2 : mat.length = args.length
    · have h3 : ((mat.length : Int) != (args.length : Int)) = false := by simp [h2]
      have H2 := Lib.hid h2
      have h2a : mat.length ≤ args.length := by omega
      clear h2
      by_cases hbf : belowF a args = true
      · have HG : Hid (matchedF M a args mat = (List.range mat.length).all fun i => matB M (args.getD i default) (mat.getD i default)) := by
          unfold Hid matchedF
          simp only [h1a, h1b, H2.out, hbf, and_self, decide_true, Bool.true_and]
        have HIN : Hid (∀ x ∈ args, inB a x = true) := by
          unfold belowF at hbf
          exact List.all_eq_true.1 hbf
        have HBF := Lib.hid hbf
        clear hbf
        go_enter Try.func29, Try.ntmps29
        go_wp2_with fail
        refine (HBL.out _ HSL.out).mono ?_
        rintro e w1 ⟨rfl, rfl⟩
        rw [HBF.out]
        go_wp2_with fail
        go_loopw [34] (fun i wr => ∃ k : Nat, k ≤ mat.length ∧ i = .int .i64 k ∧ Dr w wr ∧ Hid (((List.range k).all fun i => matB M (args.getD i default) (mat.getD i default)) = true)) (fun i _ => mat.length - (intOf i).toNat)
        case atStart => exact ⟨0, Nat.zero_le _, rfl, Dr.refl _, rfl⟩
        case round =>
          obtain ⟨k, hk, rfl, hD, hS⟩ := hrel
          by_cases hlt : k < mat.length
          · have hlta : k < args.length := by omega
            have HS := Lib.hid (range_step hS.out (p := fun i => matB M (args.getD i default) (mat.getD i default)) (k := k))
            have HF := Lib.hid (range_fail (p := fun i => matB M (args.getD i default) (mat.getD i default)) hlt)
            have hx := HIN.out _ (getD_mem hlta)
            obtain ⟨ba, offa, rfl, -, hca⟩ := HA.out (by omega)
            obtain ⟨bm, offm, rfl, -, hcm⟩ := HMM.out (by omega)
            have d0 := (hD.cell ⟨ba, offa + k * 1 + 0, none⟩).trans (hca k hlta 0 (by omega))
            have e0 := (hD.cell ⟨bm, offm + k * 1 + 0, none⟩).trans (hcm k hlt 0 (by omega))
            have k6 := (hD.cell ⟨b, 6, none⟩).trans c6
            simp only [iEnc, Nat.mul_one, Nat.add_zero] at d0 e0
            clear hca hcm
            generalize args.getD k default = x at *
            generalize mat.getD k default = y at *
            simp only [inB, decide_eq_true_eq] at hx
            obtain ⟨xn, rfl⟩ := Int.eq_ofNat_of_zero_le hx.1
            have hxn : xn < M.exprs.length := by omega
            obtain ⟨bx, offx, rfl, hbx, hcx⟩ := HX.out (by omega)
            have f0 := (hD.cell ⟨bx, offx + xn * 12 + 0, none⟩).trans ((HBw.out.cell (p := ⟨bx, offx + xn * 12 + 0, none⟩) hbx).trans (hcx xn hxn 0 (by omega)))
            simp only [ExD.enc, Nat.add_zero] at f0
            clear hcx hx
            have HOP : Hid (opAt M (xn : Int) = (M.exprs.getD xn default).op) := rfl
            generalize (M.exprs.getD xn default).op = op at *
            have i1 : (0 : Int) ≤ k := by omega
            have i2 : (k : Int) < args.length := by omega
            have i3 : (0 : Int) ≤ xn := by omega
            have i4 : (xn : Int) < M.exprs.length := by omega
            by_cases y1 : y < -1
            · have y1b : decide (y < -1) = true := by simpa using y1
              have HN := Lib.hid (HF.out (by unfold matB; simp; intro h; omega))
              go_wp2_with fail
              go_quiet (fail)
              go_wp2
              go_ret
              exact ⟨retb (by rw [HG.out, HN.out]), hD.step _⟩
            · have y1b : decide (y < -1) = false := by simpa using y1
              by_cases y2 : 1 < y
              · have y2b : decide (1 < y) = true := by simpa using y2
                have HN := Lib.hid (HF.out (by unfold matB; simp; intro h; omega))
                go_wp2_with fail
                go_quiet (fail)
                go_wp2
                go_ret
                exact ⟨retb (by rw [HG.out, HN.out]), hD.step _⟩
              · have y2b : decide (1 < y) = false := by simpa using y2
                cases y3 : (y == 0)
                · have HN := Lib.hid (HS.out (by unfold matB; rw [y3]; simp; omega))
                  go_wp2_with fail
                  go_quiet (fail)
                  go_wp2
                  go_roundw
                  case rel => exact ⟨k + 1, by omega, by go_num, hD.step _, HN⟩
                  case measure => simp [intOf]; omega
                · cases o3 : (op != 2)
                  · have HN := Lib.hid (HS.out (by unfold matB; rw [y3, HOP.out, o3]; simp; omega))
                    go_wp2_with fail
                    go_quiet (fail)
                    go_wp2
                    go_roundw
                    case rel => exact ⟨k + 1, by omega, by go_num, hD.step _, HN⟩
                    case measure => simp [intOf]; omega
                  · have HN := Lib.hid (HF.out (by unfold matB; rw [y3, HOP.out, o3]; simp))
                    go_wp2_with fail
                    go_quiet (fail)
                    go_wp2
                    go_ret
                    exact ⟨retb (by rw [HG.out, HN.out]), hD.step _⟩
          · obtain rfl : k = mat.length := by omega
            go_wp2
            go_ret
            exact ⟨retb (by rw [HG.out, hS.out]), hD⟩
      · have hbf2 : belowF a args = false := by simpa using hbf
        have HG : Hid (matchedF M a args mat = false) := by unfold Hid matchedF; simp [hbf2]
        have HBF := Lib.hid hbf2
        clear hbf hbf2
        go_enter Try.func29, Try.ntmps29
        go_wp2_with fail
        refine (HBL.out _ HSL.out).mono ?_
        rintro e w1 ⟨rfl, rfl⟩
        rw [HBF.out]
        go_wp2
        go_ret
        exact ⟨retb HG.out.symm, Dr.refl _⟩
    · have HG : Hid (matchedF M a args mat = false) := by unfold Hid matchedF; simp [h2]
      have h3 : ((mat.length : Int) != (args.length : Int)) = true := by simp; omega
      clear h2
      go_enter Try.func29, Try.ntmps29
      go_wp2_with fail
      go_ret
      exact ⟨retb HG.out.symm, Dr.refl _⟩
  · have HG : Hid (matchedF M a args mat = false) := by unfold Hid matchedF; simp; omega
    by_cases h1a : args.length < 1
    · go_enter Try.func29, Try.ntmps29
      go_wp2_with fail
      all_goals first
        | (go_ret; exact ⟨retb HG.out.symm, Dr.refl _⟩)
        | (exfalso; simp_all; done)
    · have h1b : 8 < args.length := by omega
      have h1c : 1 ≤ args.length := by omega
      clear h1 h1a
      go_enter Try.func29, Try.ntmps29
      go_wp2_with fail
      all_goals first
        | (go_ret; exact ⟨retb HG.out.symm, Dr.refl _⟩)
        | (exfalso; simp_all; done)
end Go.Proofs.Ytblpajbacdbgpaa

/-
  Contract of good's variable. Conditions: the model is laid as data; the checker's cells.
-/
import Derived.Test.YtblpajbacdbgpaaO
import Derived.Deep.DeepCutAuto
import Derived.Deep.LoopGhost
namespace Go.Proofs.Ytblpajbacdbgpaa
open Go.ChangeShapes Go.WideShapes Go.ChangeAt Go.RowKit Go.Deep Go.Joins
theorem sl_at {w : World} {x : Int} {t : TypeId} {n : Nat} (hn : w.heap.size = n) : Sl (w.alloc (.cells #[.int .i64 x] t)) 1 iEnc (.slice (some ⟨n, 0, none⟩) 1 1) [x] := by
  subst hn
  exact sl_one w x t
def dimB (a : Int) (d : Dim) : Bool := inB a d.i && decide (1 ≤ d.len ∧ d.len ≤ 128 ∧ 0 ≤ d.stride ∧ d.stride ≤ 128)
def varG (M : MoD) (a scope who ty : Int) : Bool := if scope = 2 then inB a who && procF M ty else decide (who = -1 ∧ ty = -1)
def variableF (M : MoD) (a scope slot who ty : Int) (dims : List Dim) : Bool :=
  decide (0 ≤ scope ∧ scope ≤ 2 ∧ 0 ≤ slot ∧ slot ≤ 128 ∧ dims.length ≤ 4) && varG M a scope who ty && dims.all (dimB a)
section
variable (M : MoD) (w0 : World) (hM : M.ok w0) (b : Nat) (a scope slot who ty : Int) (dv : Value) (dims : List Dim) (w : World) (hB : Below w0.heap.size w0 w) (hk : Ck w b M) (hd : Sl w0 3 Dim.enc dv dims)
include hM hB hk hd
set_option maxHeartbeats 2000000 in
set_option maxRecDepth 100000 in
theorem variable_any : Calls Try.prog 28 #[.pointer (some ⟨b, 0, none⟩), .int .i64 a, .agg #[.int .i64 scope, .int .i64 slot, .int .i64 who, .int .i64 ty, dv]] w fun e w' => e = .returned (.bool (variableF M a scope slot who ty dims)) ∧ Below w.heap.size w w' := by
  obtain ⟨ad, cd, rfl, -, -, hcd⟩ := hd
  have HD := Lib.hid hcd
  have HPT := Lib.hid (fun W (hW : Below w.heap.size w W) => proctype_any M w0 hM b ty W (hk.keep hW))
  have HBw := Lib.hid hB
  clear hM hcd hk hB
  by_cases hg : 0 ≤ scope ∧ scope ≤ 2 ∧ 0 ≤ slot ∧ slot ≤ 128 ∧ dims.length ≤ 4
  · have HG : Hid (variableF M a scope slot who ty dims = (varG M a scope who ty && dims.all (dimB a))) := by
      unfold Hid variableF; simp only [hg, and_self, decide_true, Bool.true_and]
    obtain ⟨g1, g2, g3, g4, g5⟩ := hg
    have hb1 : decide (scope < 0) = false := by simp; omega
    have hb2 : decide (2 < scope) = false := by simp; omega
    have hb3 : decide (slot < 0) = false := by simp; omega
    have hb4 : decide (128 < slot) = false := by simp; omega
    have hb5 : decide (4 < dims.length) = false := by simp; omega
    by_cases hv : varG M a scope who ty = true
    · have HV := Lib.hid hv
      have HV2 : Hid (scope = 2 → inB a who = true ∧ procF M ty = true) := by
        intro h
        unfold varG at hv
        rw [if_pos h] at hv
        simpa using hv
      have HV3 : Hid (¬ scope = 2 → who = -1 ∧ ty = -1) := by
        intro h
        unfold varG at hv
        rw [if_neg h] at hv
        simpa using hv
      clear hv
      by_cases h2 : scope = 2
      · subst h2
        have hw := Lib.hid (HV2.out rfl).1
        have hp := Lib.hid (HV2.out rfl).2
        clear HV2 HV3
        go_enter Try.func28, Try.ntmps28
        go_wp2_with fail
        refine (below_any _ _ [who] _ (sl_at ?_)).mono ?_
        · simp
        rintro e w1 ⟨rfl, rfl⟩
        rw [belowF_one, hw.out]
        go_wp2_with fail
        (with_reducible refine (HPT.out _ ?_).mono ?_)
        · go_grown
        rintro e w1 ⟨rfl, rfl⟩
        rw [hp.out]
        go_wp2_with fail
        go_loopw [60] (fun i wr => ∃ k : Nat, k ≤ dims.length ∧ i = .int .i64 k ∧ Below w.heap.size w wr ∧ Hid ((dims.take k).all (dimB a) = true)) (fun i _ => dims.length - (intOf i).toNat)
        case atStart => exact ⟨0, Nat.zero_le _, rfl, by go_grown, rfl⟩
        case round =>
          obtain ⟨k, hk, rfl, hB0, hS⟩ := hrel
          have hsz := hB0.size
          have hB00 : Below w0.heap.size w0 wr := HBw.out.trans (hB0.mono HBw.out.size)
          by_cases hlt : k < dims.length
          · obtain ⟨bd, offd, rfl, hbd, hcd⟩ := HD.out (by omega)
            have d0 := (hB00.cell (p := ⟨bd, offd + k * 3 + 0, none⟩) hbd).trans (hcd k hlt 0 (by omega))
            have d1 := (hB00.cell (p := ⟨bd, offd + k * 3 + 1, none⟩) hbd).trans (hcd k hlt 1 (by omega))
            have d2 := (hB00.cell (p := ⟨bd, offd + k * 3 + 2, none⟩) hbd).trans (hcd k hlt 2 (by omega))
            simp only [Dim.enc, Nat.add_zero] at d0 d1 d2
            clear hcd
            have HS := Lib.hid (all_step hS.out hlt)
            have HF := Lib.hid (all_fail (p := dimB a) hlt)
            generalize dims.getD k default = d at *
            cases hi : inB a d.i
            · have HN := Lib.hid (HF.out (by unfold dimB; rw [hi]; rfl))
              have hi' := Lib.hid hi
              clear hi
              go_wp2_with fail
              refine (below_any _ _ [d.i] _ (sl_at ?_)).mono ?_
              · simp
              rintro e w1 ⟨rfl, rfl⟩
              rw [belowF_one, hi'.out]
              go_wp2
              go_ret
              exact ⟨retb (by rw [HG.out, HN.out, Bool.and_false]), by go_grown⟩
            · have hi' := Lib.hid hi
              by_cases hd : 1 ≤ d.len ∧ d.len ≤ 128 ∧ 0 ≤ d.stride ∧ d.stride ≤ 128
              · have HN := Lib.hid (HS.out (by unfold dimB; rw [hi]; simpa using hd))
                obtain ⟨e1, e2, e3, e4⟩ := hd
                clear hi
                go_wp2_with fail
                refine (below_any _ _ [d.i] _ (sl_at ?_)).mono ?_
                · simp
                rintro e w1 ⟨rfl, rfl⟩
                rw [belowF_one, hi'.out]
                go_wp2
                go_roundw
                case rel => exact ⟨k + 1, by omega, by go_num, by go_grown, HN⟩
                case measure => simp [intOf]; omega
              · have HN := Lib.hid (HF.out (by unfold dimB; rw [hi, decide_eq_false hd]; rfl))
                clear hi
                go_wp2_with fail
                refine (below_any _ _ [d.i] _ (sl_at ?_)).mono ?_
                · simp
                rintro e w1 ⟨rfl, rfl⟩
                rw [belowF_one, hi'.out]
                go_wp2
                all_goals first
                  | (go_ret; exact ⟨retb (by rw [HG.out, HN.out, Bool.and_false]), by go_grown⟩)
                  | (exfalso; omega)
          · obtain rfl : k = dims.length := by omega
            go_wp2
            go_ret
            exact ⟨retb (by rw [HG.out, HV.out, all_end hS.out hlt]; rfl), hB0⟩
      · have h3 : (scope == 2) = false := by simpa using h2
        obtain ⟨rfl, rfl⟩ := HV3.out h2
        clear HV2 HV3 h2
        go_enter Try.func28, Try.ntmps28
        go_wp2_with fail
        go_loopw [60] (fun i wr => ∃ k : Nat, k ≤ dims.length ∧ i = .int .i64 k ∧ Below w.heap.size w wr ∧ Hid ((dims.take k).all (dimB a) = true)) (fun i _ => dims.length - (intOf i).toNat)
        case atStart => exact ⟨0, Nat.zero_le _, rfl, by go_grown, rfl⟩
        case round =>
          obtain ⟨k, hk, rfl, hB0, hS⟩ := hrel
          have hsz := hB0.size
          have hB00 : Below w0.heap.size w0 wr := HBw.out.trans (hB0.mono HBw.out.size)
          by_cases hlt : k < dims.length
          · obtain ⟨bd, offd, rfl, hbd, hcd⟩ := HD.out (by omega)
            have d0 := (hB00.cell (p := ⟨bd, offd + k * 3 + 0, none⟩) hbd).trans (hcd k hlt 0 (by omega))
            have d1 := (hB00.cell (p := ⟨bd, offd + k * 3 + 1, none⟩) hbd).trans (hcd k hlt 1 (by omega))
            have d2 := (hB00.cell (p := ⟨bd, offd + k * 3 + 2, none⟩) hbd).trans (hcd k hlt 2 (by omega))
            simp only [Dim.enc, Nat.add_zero] at d0 d1 d2
            clear hcd
            have HS := Lib.hid (all_step hS.out hlt)
            have HF := Lib.hid (all_fail (p := dimB a) hlt)
            generalize dims.getD k default = d at *
            cases hi : inB a d.i
            · have HN := Lib.hid (HF.out (by unfold dimB; rw [hi]; rfl))
              have hi' := Lib.hid hi
              clear hi
              go_wp2_with fail
              refine (below_any _ _ [d.i] _ (sl_at ?_)).mono ?_
              · simp
              rintro e w1 ⟨rfl, rfl⟩
              rw [belowF_one, hi'.out]
              go_wp2
              go_ret
              exact ⟨retb (by rw [HG.out, HN.out, Bool.and_false]), by go_grown⟩
            · have hi' := Lib.hid hi
              by_cases hd : 1 ≤ d.len ∧ d.len ≤ 128 ∧ 0 ≤ d.stride ∧ d.stride ≤ 128
              · have HN := Lib.hid (HS.out (by unfold dimB; rw [hi]; simpa using hd))
                obtain ⟨e1, e2, e3, e4⟩ := hd
                clear hi
                go_wp2_with fail
                refine (below_any _ _ [d.i] _ (sl_at ?_)).mono ?_
                · simp
                rintro e w1 ⟨rfl, rfl⟩
                rw [belowF_one, hi'.out]
                go_wp2
                go_roundw
                case rel => exact ⟨k + 1, by omega, by go_num, by go_grown, HN⟩
                case measure => simp [intOf]; omega
              · have HN := Lib.hid (HF.out (by unfold dimB; rw [hi, decide_eq_false hd]; rfl))
                clear hi
                go_wp2_with fail
                refine (below_any _ _ [d.i] _ (sl_at ?_)).mono ?_
                · simp
                rintro e w1 ⟨rfl, rfl⟩
                rw [belowF_one, hi'.out]
                go_wp2
                all_goals first
                  | (go_ret; exact ⟨retb (by rw [HG.out, HN.out, Bool.and_false]), by go_grown⟩)
                  | (exfalso; omega)
          · obtain rfl : k = dims.length := by omega
            go_wp2
            go_ret
            exact ⟨retb (by rw [HG.out, HV.out, all_end hS.out hlt]; rfl), hB0⟩
    · have hv2 : varG M a scope who ty = false := by simpa using hv
      have HV : Hid (variableF M a scope slot who ty dims = false) := by unfold Hid; rw [HG.out, hv2]; rfl
      clear HG hv
      by_cases h2 : scope = 2
      · subst h2
        unfold varG at hv2
        rw [if_pos rfl] at hv2
        cases hw : inB a who
        · have hw' := Lib.hid hw
          clear hw hv2
          go_enter Try.func28, Try.ntmps28
          go_wp2_with fail
          refine (below_any _ _ [who] _ (sl_at ?_)).mono ?_
          · simp
          rintro e w1 ⟨rfl, rfl⟩
          rw [belowF_one, hw'.out]
          go_wp2
          go_ret
          exact ⟨retb HV.out.symm, by go_grown⟩
        · rw [hw, Bool.true_and] at hv2
          have hw' := Lib.hid hw
          have hp := Lib.hid hv2
          clear hw hv2
          go_enter Try.func28, Try.ntmps28
          go_wp2_with fail
          refine (below_any _ _ [who] _ (sl_at ?_)).mono ?_
          · simp
          rintro e w1 ⟨rfl, rfl⟩
          rw [belowF_one, hw'.out]
          go_wp2_with fail
          (with_reducible refine (HPT.out _ ?_).mono ?_)
          · go_grown
          rintro e w1 ⟨rfl, rfl⟩
          rw [hp.out]
          go_wp2
          go_ret
          exact ⟨retb HV.out.symm, by go_grown⟩
      · have h3 : (scope == 2) = false := by simpa using h2
        unfold varG at hv2
        rw [if_neg h2] at hv2
        clear h2
        by_cases hwn : who = -1
        · subst hwn
          have h4 : (ty != -1) = true := by simp at hv2 ⊢; exact hv2
          clear hv2
          go_enter Try.func28, Try.ntmps28
          go_wp2
          go_ret
          exact ⟨retb HV.out.symm, by go_grown⟩
        · have h4 : (who != -1) = true := by simp; exact hwn
          clear hv2 hwn
          go_enter Try.func28, Try.ntmps28
          go_wp2
          go_ret
          exact ⟨retb HV.out.symm, by go_grown⟩
  · have HG : Hid (variableF M a scope slot who ty dims = false) := by
      unfold Hid variableF; simp only [hg, decide_false, Bool.false_and]
    go_enter Try.func28, Try.ntmps28
    go_wp2_with fail
    all_goals first
      | (go_ret; exact ⟨retb HG.out.symm, by go_grown⟩)
      | (exfalso; omega)
end
end Go.Proofs.Ytblpajbacdbgpaa

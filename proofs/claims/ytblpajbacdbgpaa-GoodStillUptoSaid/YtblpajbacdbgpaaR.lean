/-
  Contract of good's taken. Conditions: the model is laid as data; the checker's cells.
-/
import Derived.Test.YtblpajbacdbgpaaQ
namespace Go.Proofs.Ytblpajbacdbgpaa
open Go.ChangeShapes Go.WideShapes Go.ChangeAt Go.RowKit Go.Deep Go.Joins
def takB (M : MoD) (x : TrD) (i : Nat) : Bool := !(x.mat.getD i default == 0) || targetF M (x.args.getD i default)
def takenF (M : MoD) (x : TrD) : Bool := matchedF M M.exprs.length x.args x.mat && (List.range x.mat.length).all (takB M x)
set_option maxHeartbeats 2000000 in
theorem taken_any (M : MoD) (w0 : World) (hM : M.ok w0) (b : Nat) (x : TrD) (w : World) (hB : Below w0.heap.size w0 w) (hk : Ck w b M) (hx : x.ok w0) :
    Calls Try.prog 37 #[.pointer (some ⟨b, 0, none⟩), x.st] w fun e w' => e = .returned (.bool (takenF M x)) ∧ Below w.heap.size w w' := by
  have HMT : Hid (∀ W, Below w.heap.size w W → Calls Try.prog 29 #[.pointer (some ⟨b, 0, none⟩), .int .i64 M.exprs.length, x.av, x.mv] W fun e w' => e = .returned (.bool (matchedF M M.exprs.length x.args x.mat)) ∧ ∃ m, w' = W.drewN m) :=
    fun W hW => matched_any M w0 hM b _ _ _ _ _ W (hB.trans (hW.mono hB.size)) (hk.keep hW) (hx.av.keep (hB.trans (hW.mono hB.size))) (hx.mv.keep (hB.trans (hW.mono hB.size))) (Int.le_refl _) hx.az
  have HTG := Lib.hid (fun (a : Int) W (hW : Below w.heap.size w W) => target_any M w0 hM b a W (hB.trans (hW.mono hB.size)) (hk.keep hW))
  obtain ⟨aa, ca, hva, -, -, hca⟩ := hx.av
  obtain ⟨am, cm, hvm, -, -, hcm⟩ := hx.mv
  have haz := hx.az
  have hmz := hx.mz
  obtain ⟨ax, cx, hxv, -, -, -⟩ := hM.xv
  have c6 := hk.c6
  rw [hxv] at c6
  have hbl := hk.lt
  have hbl2 : b ≠ w.heap.size := by omega
  have HBw := Lib.hid hB
  have hsz := hB.size
  have HA := Lib.hid hca
  have HMC := Lib.hid hcm
  rw [hva, hvm] at HMT
  unfold TrD.st
  rw [hva, hvm]
  clear hva hvm hxv hca hcm hB hk hx hM
  by_cases hm : matchedF M M.exprs.length x.args x.mat = true
  · have HG : Hid (takenF M x = (List.range x.mat.length).all (takB M x)) := by unfold Hid takenF; rw [hm]; rfl
    have hle : x.mat.length ≤ x.args.length := by
      unfold matchedF at hm
      simp only [Bool.and_eq_true, decide_eq_true_eq] at hm
      omega
    rw [hm] at HMT
    clear hm
    go_enter Try.func37, Try.ntmps37
    go_wp2_with fail
    go_quiet ((go_at_call 29; exact Calls.quiet_of (HMT.out _ (below_drewN ((Below.refl _ _).alloc (Nat.le_refl _) _) _))))
    generalize hW0 : (w.alloc (.cells #[.int .i64 x.kind, .int .i64 x.a, .int .i64 x.b, .int .i64 x.n, .slice aa x.args.length ca, .slice am x.mat.length cm, .string x.text] 71)).drewN nq = W0 at *
    have k4 : W0.cell? ⟨w.heap.size, 4, none⟩ = some (.slice aa x.args.length ca) := by rw [← hW0]; simp [go_sem]
    have k5 : W0.cell? ⟨w.heap.size, 5, none⟩ = some (.slice am x.mat.length cm) := by rw [← hW0]; simp [go_sem]
    have hBW0 : Below w.heap.size w W0 := by rw [← hW0]; exact below_drewN (by go_grown) _
    have hz0 : w.heap.size < W0.heap.size := by rw [← hW0]; simp
    clear hW0
    go_wp2_with fail
    have K4 := Lib.hid k4
    clear k4 k5
    go_loopw [23] (fun i wr => ∃ k : Nat, k ≤ x.mat.length ∧ i = .int .i64 k ∧ Below W0.heap.size W0 wr ∧ Hid (((List.range k).all (takB M x)) = true)) (fun i _ => x.mat.length - (intOf i).toNat)
    case atStart => exact ⟨0, Nat.zero_le _, rfl, Below.refl _ _, rfl⟩
    case round =>
      obtain ⟨k, hk, rfl, hD, hS⟩ := hrel
      have hDw : Below w.heap.size w wr := hBW0.trans (hD.mono (by omega))
      have hDs := hDw.size
      by_cases hlt : k < x.mat.length
      · have hlta : k < x.args.length := by omega
        have HS := Lib.hid (range_step hS.out (p := takB M x) (k := k))
        have HF := Lib.hid (range_fail (p := takB M x) hlt)
        have HTB : Hid (takB M x k = (!(x.mat.getD k default == 0) || targetF M (x.args.getD k default))) := rfl
        obtain ⟨ba, offa, rfl, hba, hca⟩ := HA.out (by omega)
        obtain ⟨bm, offm, rfl, hbm, hcm⟩ := HMC.out (by omega)
        have hB0r : Below w0.heap.size w0 wr := HBw.out.trans (hDw.mono hsz)
        have d0 := (hB0r.cell (p := ⟨ba, offa + k * 1 + 0, none⟩) hba).trans (hca k hlta 0 (by omega))
        have e0 := (hB0r.cell (p := ⟨bm, offm + k * 1 + 0, none⟩) hbm).trans (hcm k hlt 0 (by omega))
        have k4 := (hD.cell (p := ⟨w.heap.size, 4, none⟩) hz0).trans K4.out
        simp only [iEnc, Nat.mul_one, Nat.add_zero] at d0 e0
        clear hca hcm hB0r
        generalize x.args.getD k default = a at *
        generalize x.mat.getD k default = y at *
        cases y0 : (y == 0)
        · have HN := Lib.hid (HS.out (by rw [HTB.out, y0]; rfl))
          go_wp2
          go_roundw
          case rel => exact ⟨k + 1, by omega, by go_num, hD, HN⟩
          case measure => simp [intOf]; omega
        · cases ht : targetF M a
          · have HN := Lib.hid (HF.out (by rw [HTB.out, y0, ht]; rfl))
            have HT := Lib.hid ht
            clear ht
            go_wp2_with fail
            refine (HTG.out a _ hDw).mono ?_
            rintro e w1 ⟨rfl, hB1⟩
            rw [HT.out]
            have hB2 : Below w.heap.size w w1 := hDw.trans (hB1.mono hDs)
            clear hB1
            go_wp2
            go_ret
            exact ⟨retb (by rw [HG.out, HN.out]), hB2⟩
          · have HN := Lib.hid (HS.out (by rw [HTB.out, y0, ht]; rfl))
            have HT := Lib.hid ht
            clear ht
            go_wp2_with fail
            refine (HTG.out a _ hDw).mono ?_
            rintro e w1 ⟨rfl, hB1⟩
            rw [HT.out]
            have hB2 : Below W0.heap.size W0 w1 := hD.trans (hB1.mono hD.size)
            clear hB1
            go_wp2
            go_roundw
            case rel => exact ⟨k + 1, by omega, by go_num, hB2, HN⟩
            case measure => simp [intOf]; omega
      · obtain rfl : k = x.mat.length := by omega
        go_wp2
        go_ret
        exact ⟨retb (by rw [HG.out, hS.out]), hDw⟩
  · have hm2 : matchedF M M.exprs.length x.args x.mat = false := by simpa using hm
    have HG : Hid (takenF M x = false) := by unfold Hid takenF; rw [hm2]; rfl
    rw [hm2] at HMT
    clear hm hm2
    go_enter Try.func37, Try.ntmps37
    go_wp2_with fail
    go_quiet ((go_at_call 29; exact Calls.quiet_of (HMT.out _ (below_drewN ((Below.refl _ _).alloc (Nat.le_refl _) _) _))))
    go_wp2
    go_ret
    exact ⟨retb HG.out.symm, below_drewN (by go_grown) _⟩
end Go.Proofs.Ytblpajbacdbgpaa

/-
  Contract of good's statement, the kinds whose statements draw their order. Conditions: the model is laid as data; the checker's cells.
-/
import Derived.Test.YtblpajbacdbgpaaS
namespace Go.Proofs.Ytblpajbacdbgpaa
open Go.ChangeShapes Go.WideShapes Go.ChangeAt Go.RowKit Go.Deep Go.Joins
set_option maxHeartbeats 4000000 in
set_option maxRecDepth 100000 in
theorem st_4 (M : MoD) (b : Nat) (x : TrD) (w : World) (HE : Hid (StE M b x w)) (aa am ax : Option Addr) (ca cm cx : Nat) (hva : x.av = .slice aa x.args.length ca) (hvm : x.mv = .slice am x.mat.length cm) (hkd : x.kind = 4) (hbl : b < w.heap.size) (c6 : w.cell? ⟨b, 6, none⟩ = some (.slice ax M.exprs.length cx)) (htz : x.text.size ≤ maxLen) :
    Calls Try.prog 32 #[.pointer (some ⟨b, 0, none⟩), x.st] w fun e w' => e = .returned (.bool (statementF M x)) ∧ Below w.heap.size w w' := by
  have HBL := Lib.hid HE.out.bl
  unfold maxLen at htz
  have HG : Hid (statementF M x = ((((((x.a == -1) && (x.b == -1)) && belowF M.exprs.length x.args) && decide (x.mat.length = 0)) && decide (x.text.size ≤ 256)) && (x.n == 0))) := by
    unfold Hid statementF
    rw [if_neg (by omega)]
    rw [if_neg (by omega)]
    rw [if_pos (by omega)]
  clear HE
  unfold TrD.st at *
  rw [hva, hvm]
  rw [hva] at HBL
  clear hva hvm
  generalize x.kind = kd at *
  subst hkd
  have hbl2 : b ≠ w.heap.size := by omega
  cases hp0 : (x.a == -1)
  · rw [hp0, Bool.false_and, Bool.false_and, Bool.false_and, Bool.false_and, Bool.false_and] at HG
    go_enter Try.func32, Try.ntmps32
    go_wp2_with fail
    go_quiet (fail)
    go_wp2
    go_ret
    exact ⟨retb HG.out.symm, below_drewN (by go_grown) _⟩
  · rw [hp0, Bool.true_and] at HG
    cases hp1 : (x.b == -1)
    · rw [hp1, Bool.false_and, Bool.false_and, Bool.false_and, Bool.false_and] at HG
      go_enter Try.func32, Try.ntmps32
      go_wp2_with fail
      go_quiet (fail)
      go_wp2
      go_ret
      exact ⟨retb HG.out.symm, below_drewN (by go_grown) _⟩
    · rw [hp1, Bool.true_and] at HG
      cases hp2 : belowF M.exprs.length x.args
      · rw [hp2, Bool.false_and, Bool.false_and, Bool.false_and] at HG
        rw [hp2] at HBL
        clear hp2
        go_enter Try.func32, Try.ntmps32
        go_wp2_with fail
        go_quiet ((go_at_call 27; exact quiet_left (HBL.out _ (below_drewN ((Below.refl _ _).alloc (Nat.le_refl _) _) _))))
        go_wp2
        go_ret
        exact ⟨retb HG.out.symm, below_drewN (by go_grown) _⟩
      · rw [hp2, Bool.true_and] at HG
        rw [hp2] at HBL
        clear hp2
        cases hp3 : decide (x.mat.length = 0)
        · rw [hp3, Bool.false_and, Bool.false_and] at HG
          have hm1 : ((x.mat.length : Int) == 0) = false := by simpa using hp3
          clear hp3
          go_enter Try.func32, Try.ntmps32
          go_wp2_with fail
          go_quiet ((go_at_call 27; exact quiet_left (HBL.out _ (below_drewN ((Below.refl _ _).alloc (Nat.le_refl _) _) _))))
          go_wp2
          go_ret
          exact ⟨retb HG.out.symm, below_drewN (by go_grown) _⟩
        · rw [hp3, Bool.true_and] at HG
          have hm1 : ((x.mat.length : Int) == 0) = true := by simpa using hp3
          clear hp3
          cases hp4 : decide (x.text.size ≤ 256)
          · rw [hp4, Bool.false_and] at HG
            have ht1 : decide ((x.text.size : Int) ≤ 256) = false := by rw [decide_eq_false_iff_not] at hp4 ⊢; omega
            go_enter Try.func32, Try.ntmps32
            go_wp2_with fail
            go_quiet ((go_at_call 27; exact quiet_left (HBL.out _ (below_drewN ((Below.refl _ _).alloc (Nat.le_refl _) _) _))))
            go_wp2
            go_ret
            exact ⟨retb HG.out.symm, below_drewN (by go_grown) _⟩
          · rw [hp4, Bool.true_and] at HG
            have ht1 : decide ((x.text.size : Int) ≤ 256) = true := by rw [decide_eq_true_iff] at hp4 ⊢; omega
            go_enter Try.func32, Try.ntmps32
            go_wp2_with fail
            go_quiet ((go_at_call 27; exact quiet_left (HBL.out _ (below_drewN ((Below.refl _ _).alloc (Nat.le_refl _) _) _))))
            go_wp2
            go_ret
            exact ⟨retb HG.out.symm, below_drewN (by go_grown) _⟩
end Go.Proofs.Ytblpajbacdbgpaa

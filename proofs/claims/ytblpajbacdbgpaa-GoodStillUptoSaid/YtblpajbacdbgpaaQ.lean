/-
  Contracts of good's empty, places, taken. Conditions: the model is laid as data; the checker's cells.
-/
import Derived.Test.YtblpajbacdbgpaaO
namespace Go.Proofs.Ytblpajbacdbgpaa
open Go.ChangeShapes Go.WideShapes Go.ChangeAt Go.RowKit Go.Deep Go.Joins
def TrD.st (x : TrD) : Value := .agg #[.int .i64 x.kind, .int .i64 x.a, .int .i64 x.b, .int .i64 x.n, x.av, x.mv, .string x.text]
def emptyF (x : TrD) (n : Bool) : Bool := ((x.args.length : Int) + x.mat.length == 0) && (!n || x.n == 0) && x.text.toList.isEmpty
set_option maxHeartbeats 1000000 in
theorem empty_any (x : TrD) (n : Bool) (w0 w : World) (h : x.ok w0) :
    Calls Try.prog 35 #[x.st, .bool true, .bool n, .bool true] w fun e w' => e = .returned (.bool (emptyF x n)) ∧ Below w.heap.size w w' := by
  obtain ⟨-, -, -, -, -, -, -, ⟨aa, ca, hva, -, -, -⟩, -, -, hza, ⟨am, cm, hvm, -, -, -⟩, -, hzm⟩ := h
  unfold TrD.st
  rw [hva, hvm]
  clear hva hvm
  go_enter Try.func35, Try.ntmps35
  cases n
  all_goals
    go_wp2
    all_goals
      go_ret
      refine ⟨retb ?_, by go_grown⟩
      unfold emptyF
      simp [*]
def ExD.val (x : ExD) : Value := .agg #[.int .i64 x.op, .int .i64 x.n, .int .i64 x.a, .int .i64 x.b, .int .i64 x.c, .int .i64 x.scope, .int .i64 x.slot, .int .i64 x.who, .int .i64 x.ty, x.dv, x.av, x.mv]
def locsLen (M : MoD) (n : Int) : Int := ((M.procs.getD n.toNat default).locs.length : Int)
def placesF (M : MoD) (x : ExD) : Bool := decide (0 ≤ x.n ∧ x.n < 1073741824) && procF M x.n && decide (1 ≤ x.args.length) && belowF (locsLen M x.n) x.args
set_option maxHeartbeats 1000000 in
theorem places_any (M : MoD) (w0 : World) (hM : M.ok w0) (b : Nat) (x : ExD) (w : World) (hB : Below w0.heap.size w0 w) (hk : Ck w b M) (hx : x.ok w0) :
    Calls Try.prog 30 #[.pointer (some ⟨b, 0, none⟩), x.val] w fun e w' => e = .returned (.bool (placesF M x)) ∧ Below w.heap.size w w' := by
  have HPT := Lib.hid (fun W (hW : Below w.heap.size w W) => proctype_any M w0 hM b x.n W (hk.keep hW))
  have HBL := Lib.hid (fun W (hW : Below w.heap.size w W) => below_any (locsLen M x.n) x.av x.args W (hx.av.keep (hB.trans (hW.mono hB.size))))
  obtain ⟨ad, cd, hvd, -, -, -⟩ := hx.dv
  obtain ⟨aa, ca, hva, -, -, -⟩ := hx.av
  obtain ⟨am, cm, hvm, -, -, -⟩ := hx.mv
  have haz := hx.az
  obtain ⟨ap, cp, hpv, -, -, hcp⟩ := hM.pv
  have HP := Lib.hid hcp
  have HPR := Lib.hid hM.procs
  have c4 := hk.c4
  rw [hpv] at c4
  have hbl := hk.lt
  have hbl2 : b ≠ w.heap.size := by omega
  have HBw := Lib.hid hB
  have hsz := hB.size
  rw [hva] at HBL
  unfold ExD.val
  rw [hvd, hva, hvm]
  clear hvd hva hvm hpv hcp hB hk hx hM
  by_cases hg : 0 ≤ x.n ∧ x.n < 1073741824
  · by_cases hp : procF M x.n = true
    · have HPP := Lib.hid hp
      by_cases hl : 1 ≤ x.args.length
      · have HG : Hid (placesF M x = belowF (locsLen M x.n) x.args) := by unfold Hid placesF; simp only [hg, hp, hl, and_self, decide_true, Bool.true_and]
        have hpn : 0 ≤ x.n ∧ x.n < M.procs.length := by
          simp only [procF, decide_eq_true_eq] at hp
          exact ⟨hp.1, hp.2.1⟩
        obtain ⟨n, hn⟩ := Int.eq_ofNat_of_zero_le hg.1
        have hnl : n < M.procs.length := by omega
        obtain ⟨bp, offp, rfl, hbp, hcp⟩ := HP.out (by omega)
        obtain ⟨-, -, -, -, -, -, -, -, -, -, -, ⟨al, capl, hvl, -, -, -⟩, -⟩ := HPR.out _ (getD_mem hnl)
        have f4 := (HBw.out.cell (p := ⟨bp, offp + n * 10 + 4, none⟩) hbp).trans (hcp n hnl 4 (by omega))
        simp only [PrD.enc] at f4
        rw [hvl] at f4
        have hbp2 : bp < w.heap.size := by omega
        have HLL : Hid (locsLen M x.n = ((M.procs.getD n default).locs.length : Int)) := by unfold Hid locsLen; rw [hn]; rfl
        rw [HLL.out] at HBL HG
        clear hp hcp hvl HP HPR
        generalize (M.procs.getD n default).locs.length = L at *
        obtain ⟨g1, g2⟩ := hg
        have HN := Lib.hid hn
        clear hn hpn
        have hn2 : (n : Int) < M.procs.length := by omega
        have hb1 : decide (x.n < 0) = false := by simp; omega
        have hb2 : decide (1073741824 ≤ x.n) = false := by simp; omega
        go_enter Try.func30, Try.ntmps30
        go_wp2_with fail
        refine (HPT.out _ ((Below.refl _ _).alloc (Nat.le_refl _) _)).mono ?_
        rintro e w1 ⟨rfl, rfl⟩
        rw [HPP.out]
        clear g1 g2 hb1 hb2
        rw [HN.out]
        have hn3 : (0 : Int) ≤ n := by omega
        go_wp2_with fail
        go_quiet ((go_at_call 27; exact quiet_left (HBL.out _ (below_drewN ((Below.refl _ _).alloc (Nat.le_refl _) _) _))))
        go_wp2
        go_ret
        exact ⟨retb HG.out.symm, below_drewN (by go_grown) _⟩
      · have HG : Hid (placesF M x = false) := by unfold Hid placesF; simp [hl]
        have hl2 : x.args.length < 1 := by omega
        obtain ⟨g1, g2⟩ := hg
        clear hl hp
        go_enter Try.func30, Try.ntmps30
        go_wp2_with fail
        refine (HPT.out _ ((Below.refl _ _).alloc (Nat.le_refl _) _)).mono ?_
        rintro e w1 ⟨rfl, rfl⟩
        rw [HPP.out]
        go_wp2_with fail
        all_goals first
          | (go_ret; exact ⟨retb HG.out.symm, by go_grown⟩)
          | (exfalso; simp_all; done)
    · have hp2 : procF M x.n = false := by simpa using hp
      have HG : Hid (placesF M x = false) := by unfold Hid placesF; simp [hp2]
      have HPP := Lib.hid hp2
      obtain ⟨g1, g2⟩ := hg
      clear hp hp2
      go_enter Try.func30, Try.ntmps30
      go_wp2_with fail
      refine (HPT.out _ ((Below.refl _ _).alloc (Nat.le_refl _) _)).mono ?_
      rintro e w1 ⟨rfl, rfl⟩
      rw [HPP.out]
      go_wp2_with fail
      go_ret
      exact ⟨retb HG.out.symm, by go_grown⟩
  · have HG : Hid (placesF M x = false) := by unfold Hid placesF; simp [hg]
    by_cases g1 : x.n < 0
    · go_enter Try.func30, Try.ntmps30
      go_wp2_with fail
      go_ret
      exact ⟨retb HG.out.symm, by go_grown⟩
    · have g2 : 1073741824 ≤ x.n := by omega
      go_enter Try.func30, Try.ntmps30
      go_wp2_with fail
      go_ret
      exact ⟨retb HG.out.symm, by go_grown⟩
end Go.Proofs.Ytblpajbacdbgpaa

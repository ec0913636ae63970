/-
  Contracts of good's place, target, empty, slots, places, variable. Conditions: the model is laid as data; the checker's cells.
-/
import Derived.Test.YtblpajbacdbgpaaN
namespace Go.Proofs.Ytblpajbacdbgpaa
open Go.ChangeShapes Go.WideShapes Go.ChangeAt Go.RowKit Go.Deep Go.Joins
theorem sl_one (w : World) (x : Int) (t : TypeId) : Sl (w.alloc (.cells #[.int .i64 x] t)) 1 iEnc (.slice (some ⟨w.heap.size, 0, none⟩) 1 1) [x] :=
  ⟨some ⟨w.heap.size, 0, none⟩, 1, rfl, Nat.le_refl _, by decide, fun _ => ⟨w.heap.size, 0, rfl, by simp, fun i hi j hj => by
    obtain rfl : i = 0 := by simpa using hi
    obtain rfl : j = 0 := by omega
    simp [go_sem, iEnc]⟩⟩
theorem belowF_one (n x : Int) : belowF n [x] = inB n x := by simp [belowF]
set_option maxHeartbeats 1000000 in
theorem place_any (M : MoD) (w0 : World) (hM : M.ok w0) (b : Nat) (a : Int) (w : World) (hk : Ck w b M) :
    Calls Try.prog 34 #[.pointer (some ⟨b, 0, none⟩), .int .i64 a] w fun e w' => e = .returned (.bool (inB M.exprs.length a)) ∧ Below w.heap.size w w' := by
  obtain ⟨ax, cx, hxv, -, -, -⟩ := hM.xv
  have c6 := hk.c6
  rw [hxv] at c6
  clear hxv hk hM
  go_enter Try.func34, Try.ntmps34
  go_wp2_with fail
  refine (below_any _ _ [a] _ (sl_one _ _ _)).mono ?_
  rintro e w1 ⟨rfl, rfl⟩
  rw [belowF_one]
  go_wp2
  go_ret
  exact ⟨rfl, by go_grown⟩
def targetF (M : MoD) (a : Int) : Bool := inB M.exprs.length a && (opAt M a == 2) && (scAt M a != 2)
set_option maxHeartbeats 1000000 in
theorem target_any (M : MoD) (w0 : World) (hM : M.ok w0) (b : Nat) (a : Int) (w : World) (hB : Below w0.heap.size w0 w) (hk : Ck w b M) :
    Calls Try.prog 36 #[.pointer (some ⟨b, 0, none⟩), .int .i64 a] w fun e w' => e = .returned (.bool (targetF M a)) ∧ Below w.heap.size w w' := by
  have HP := Lib.hid (place_any M w0 hM b a w hk)
  obtain ⟨ax, cx, hxv, -, -, hcx⟩ := hM.xv
  have c6 := hk.c6
  rw [hxv] at c6
  have HX := Lib.hid hcx
  have HC6 := Lib.hid c6
  have hbl := hk.lt
  clear hxv hk hM hcx c6
  by_cases hin : inB M.exprs.length a = true
  · have HI := Lib.hid hin
    have HT : Hid (targetF M a = ((opAt M a == 2) && (scAt M a != 2))) := by unfold Hid targetF; rw [hin]; rfl
    simp only [inB, decide_eq_true_eq] at hin
    obtain ⟨n, rfl⟩ := Int.eq_ofNat_of_zero_le hin.1
    have hn : n < M.exprs.length := by omega
    obtain ⟨bx, offx, rfl, hbx, hcx⟩ := HX.out (by omega)
    have f0 := (hB.cell (p := ⟨bx, offx + n * 12 + 0, none⟩) hbx).trans (hcx n hn 0 (by omega))
    have f5 := (hB.cell (p := ⟨bx, offx + n * 12 + 5, none⟩) hbx).trans (hcx n hn 5 (by omega))
    have hbx2 : bx < w.heap.size := Nat.lt_of_lt_of_le hbx hB.size
    simp only [ExD.enc, Nat.add_zero] at f0 f5
    clear hcx hin hbx hB
    have HOP : Hid (opAt M (n : Int) = (M.exprs.getD n default).op) := rfl
    have HSC : Hid (scAt M (n : Int) = (M.exprs.getD n default).scope) := rfl
    generalize M.exprs.getD n default = x at *
    have F0 := Lib.hid f0
    have F5 := Lib.hid f5
    clear f0 f5
    go_enter Try.func36, Try.ntmps36
    go_wp2_with fail
    refine HP.out.mono ?_
    rintro e w1 ⟨rfl, hB1⟩
    rw [HI.out]
    have c6 := (hB1.cell (p := ⟨b, 6, none⟩) hbl).trans HC6.out
    have f0 := (hB1.cell (p := ⟨bx, offx + n * 12, none⟩) hbx2).trans F0.out
    have f5 := (hB1.cell (p := ⟨bx, offx + n * 12 + 5, none⟩) hbx2).trans F5.out
    have i3 : (0 : Int) ≤ n := by omega
    have i4 : (n : Int) < M.exprs.length := by omega
    go_wp2
    all_goals
      go_ret
      refine ⟨retb ?_, hB1⟩
      rw [HT.out, HOP.out, HSC.out]
      simp [*]
  · have hin2 : inB M.exprs.length a = false := by simpa using hin
    have HT : Hid (targetF M a = false) := by unfold Hid targetF; simp [hin2]
    have HI := Lib.hid hin2
    clear hin hin2 HX HC6
    go_enter Try.func36, Try.ntmps36
    go_wp2_with fail
    refine HP.out.mono ?_
    rintro e w1 ⟨rfl, hB1⟩
    rw [HI.out]
    go_wp2
    go_ret
    exact ⟨retb HT.out.symm, hB1⟩
def frameLen (M : MoD) (i : Int) : Nat := (M.procs.getD i.toNat default).frame.length
def slotsF (M : MoD) (i scope ty : Int) : Nat := if scope = 0 then M.globals.length else if scope = 1 then frameLen M i else frameLen M ty
set_option maxHeartbeats 1000000 in
theorem slots_any (M : MoD) (w0 : World) (hM : M.ok w0) (b : Nat) (i scope slot who ty : Int) (dv : Value) (dims : List Dim) (w : World) (hB : Below w0.heap.size w0 w) (hk : Ck w b M) (hd : Sl w0 3 Dim.enc dv dims)
    (hi : 0 ≤ i ∧ i < M.procs.length) (hs : 0 ≤ scope ∧ scope ≤ 2) (ht : scope = 2 → 0 ≤ ty ∧ ty < M.procs.length) :
    Calls Try.prog 33 #[.pointer (some ⟨b, 0, none⟩), .int .i64 i, .agg #[.int .i64 scope, .int .i64 slot, .int .i64 who, .int .i64 ty, dv]] w fun e w' => e = .returned (.int .i64 (slotsF M i scope ty)) ∧ Below w.heap.size w w' := by
  obtain ⟨ad, cd, rfl, -, -, -⟩ := hd
  obtain ⟨ag, cg, hgv, -, -, -⟩ := hM.gv
  obtain ⟨ap, cp, hpv, -, -, hcp⟩ := hM.pv
  have hpr := hM.procs
  have hgz := hM.gz
  have c0 := hk.c0
  have c4 := hk.c4
  rw [hgv] at c0
  rw [hpv] at c4
  have hbl := hk.lt
  have hbl2 : b ≠ w.heap.size := by omega
  have hsz := hB.size
  have HP := Lib.hid hcp
  have HPR := Lib.hid hpr
  clear hgv hpv hk hM hcp hpr
  have key : ∀ n : Nat, n < M.procs.length → ∃ bp offp af capf, ap = some ⟨bp, offp, none⟩ ∧ bp < w.heap.size ∧ w.cell? ⟨bp, offp + n * 10 + 2, none⟩ = some (.slice af (M.procs.getD n default).frame.length capf) := by
    intro n hn
    obtain ⟨bp, offp, rfl, hbp, hcp⟩ := HP.out (by omega)
    obtain ⟨-, -, -, -, -, -, ⟨af, capf, hvf, -, -, -⟩, -⟩ := HPR.out _ (getD_mem hn)
    have f2 := (hB.cell (p := ⟨bp, offp + n * 10 + 2, none⟩) hbp).trans (hcp n hn 2 (by omega))
    simp only [PrD.enc] at f2
    rw [hvf] at f2
    exact ⟨bp, offp, af, capf, rfl, by omega, f2⟩
  have HKEY := Lib.hid key
  clear key hB
  by_cases h0 : scope = 0
  · subst h0
    go_enter Try.func33, Try.ntmps33
    go_wp2
    go_ret
    exact ⟨rfl, by go_grown⟩
  · by_cases h1 : scope = 1
    · subst h1
      obtain ⟨n, rfl⟩ := Int.eq_ofNat_of_zero_le hi.1
      have hn : n < M.procs.length := by omega
      obtain ⟨bp, offp, af, capf, rfl, hbp, f2⟩ := HKEY.out n hn
      have i3 : (0 : Int) ≤ n := by omega
      have i4 : (n : Int) < M.procs.length := by omega
      have HF : Hid (slotsF M n 1 ty = (M.procs.getD n default).frame.length) := rfl
      generalize (M.procs.getD n default).frame.length = L at *
      clear hi
      go_enter Try.func33, Try.ntmps33
      go_wp2
      go_ret
      exact ⟨reti (by rw [HF.out]), by go_grown⟩
    · obtain rfl : scope = 2 := by omega
      obtain ⟨ht1, ht2⟩ := ht rfl
      obtain ⟨n, rfl⟩ := Int.eq_ofNat_of_zero_le ht1
      have hn : n < M.procs.length := by omega
      obtain ⟨bp, offp, af, capf, rfl, hbp, f2⟩ := HKEY.out n hn
      have i3 : (0 : Int) ≤ n := by omega
      have i4 : (n : Int) < M.procs.length := by omega
      have HF : Hid (slotsF M i 2 n = (M.procs.getD n default).frame.length) := rfl
      generalize (M.procs.getD n default).frame.length = L at *
      clear hi hs ht ht1 ht2 h0 h1
      go_enter Try.func33, Try.ntmps33
      go_wp2_with fail
      go_quiet (fail)
      go_wp2
      go_ret
      exact ⟨reti (by rw [HF.out]), below_drewN (by go_grown) _⟩
end Go.Proofs.Ytblpajbacdbgpaa

/-
  Contract of good's expression. Conditions: the model is laid as data; the checker's cells; the place is one.
-/
import Derived.Test.YtblpajbacdbgpaaP
import Derived.Test.YtblpajbacdbgpaaQ
import Derived.Deep.LoopGhost
namespace Go.Proofs.Ytblpajbacdbgpaa
open Go.ChangeShapes Go.WideShapes Go.ChangeAt Go.RowKit Go.Deep Go.Joins
def partB (a : Int) (op : Int) (i : Nat) (p : Int) : Bool := if i < partsF op then inB a p else p == -1
def pAt (x : ExD) : Nat → Int
  | 0 => x.a
  | 1 => x.b
  | _ => x.c
def parAt (M : MoD) (n : Int) : Int := (M.procs.getD n.toNat default).params
def runF (M : MoD) (a : Int) (x : ExD) : Bool := decide (0 ≤ x.n) && decide (x.n < 1073741824) && procF M x.n && ((x.args.length : Int) == parAt M x.n) && belowF a x.args
def opF (M : MoD) (a : Int) (x : ExD) : Bool :=
  if x.op = 1 then fitF 32 true x.n else if x.op = 2 then variableF M a x.scope x.slot x.who x.ty x.dims else if x.op = 30 then matchedF M a x.args x.mat && (x.n == 0 || x.n == 1) else if x.op = 38 then placesF M x else if x.op = 39 then runF M a x else true
def expressionF (M : MoD) (a : Int) (x : ExD) : Bool := decide (1 ≤ x.op ∧ x.op ≤ 39) && (List.range 3).all (fun i => partB a x.op i (pAt x i)) && opF M a x
theorem partsF_le (op : Int) : partsF op ≤ 3 := by unfold partsF; split <;> (try split) <;> (try split) <;> omega
/-- What the tail of expression leans on. -/
structure ExE (M : MoD) (b : Nat) (a : Int) (x : ExD) (w : World) : Prop where
  fi : ∀ W, Below w.heap.size w W → Calls Try.prog 8 #[.agg #[.int .i64 32, .bool true], .int .i64 x.n] W fun e w' => e = .returned (.bool (fitF 32 true x.n)) ∧ Below W.heap.size W w'
  va : ∀ W, Below w.heap.size w W → Calls Try.prog 28 #[.pointer (some ⟨b, 0, none⟩), .int .i64 a, .agg #[.int .i64 x.scope, .int .i64 x.slot, .int .i64 x.who, .int .i64 x.ty, x.dv]] W fun e w' => e = .returned (.bool (variableF M a x.scope x.slot x.who x.ty x.dims)) ∧ Below W.heap.size W w'
  ma : ∀ W, Below w.heap.size w W → Calls Try.prog 29 #[.pointer (some ⟨b, 0, none⟩), .int .i64 a, x.av, x.mv] W fun e w' => e = .returned (.bool (matchedF M a x.args x.mat)) ∧ Dr W w'
  pl : ∀ W, Below w.heap.size w W → Calls Try.prog 30 #[.pointer (some ⟨b, 0, none⟩), x.val] W fun e w' => e = .returned (.bool (placesF M x)) ∧ Below W.heap.size W w'
  pt : ∀ W, Below w.heap.size w W → Calls Try.prog 31 #[.pointer (some ⟨b, 0, none⟩), .int .i64 x.n] W fun e w' => e = .returned (.bool (procF M x.n)) ∧ W = w'
  bl : ∀ W, Below w.heap.size w W → Calls Try.prog 27 #[.int .i64 a, x.av] W fun e w' => e = .returned (.bool (belowF a x.args)) ∧ W = w'
theorem exE (M : MoD) (w0 : World) (hM : M.ok w0) (b : Nat) (a : Int) (x : ExD) (w : World) (hB : Below w0.heap.size w0 w) (hk : Ck w b M) (hx : x.ok w0) (ha : a ≤ M.exprs.length) : ExE M b a x w where
  fi _ _ := fits_any _ _ _ _
  va W hW := variable_any M w0 hM b a _ _ _ _ _ _ W (hB.trans (hW.mono hB.size)) (hk.keep hW) hx.dv
  ma W hW := matched_any M w0 hM b a _ _ _ _ W (hB.trans (hW.mono hB.size)) (hk.keep hW) (hx.av.keep (hB.trans (hW.mono hB.size))) (hx.mv.keep (hB.trans (hW.mono hB.size))) ha hx.az
  pl W hW := places_any M w0 hM b x W (hB.trans (hW.mono hB.size)) (hk.keep hW) hx
  pt W hW := proctype_any M w0 hM b _ W (hk.keep hW)
  bl W hW := below_any _ _ _ W (hx.av.keep (hB.trans (hW.mono hB.size)))
set_option maxHeartbeats 4000000 in
set_option maxRecDepth 100000 in
theorem expression_any (M : MoD) (w0 : World) (hM : M.ok w0) (b : Nat) (n : Nat) (w : World) (hB : Below w0.heap.size w0 w) (hk : Ck w b M) (hn : n < M.exprs.length) :
    Calls Try.prog 21 #[.pointer (some ⟨b, 0, none⟩), .int .i64 n] w fun e w' => e = .returned (.bool (expressionF M n (M.exprs.getD n default))) ∧ Below w.heap.size w w' := by
  have hx := hM.exprs _ (getD_mem hn)
  have HE := Lib.hid (exE M w0 hM b n _ w hB hk hx (by omega))
  obtain ⟨ax, cx, hxv, -, -, hcx⟩ := hM.xv
  have hxz := hM.xz
  have c6 := hk.c6
  rw [hxv] at c6
  have hbl := hk.lt
  obtain ⟨bx, offx, rfl, hbx, hcx⟩ := hcx (by omega)
  have f0 := (hB.cell (p := ⟨bx, offx + n * 12 + 0, none⟩) hbx).trans (hcx n hn 0 (by omega))
  have f1 := (hB.cell (p := ⟨bx, offx + n * 12 + 1, none⟩) hbx).trans (hcx n hn 1 (by omega))
  have f2 := (hB.cell (p := ⟨bx, offx + n * 12 + 2, none⟩) hbx).trans (hcx n hn 2 (by omega))
  have f3 := (hB.cell (p := ⟨bx, offx + n * 12 + 3, none⟩) hbx).trans (hcx n hn 3 (by omega))
  have f4 := (hB.cell (p := ⟨bx, offx + n * 12 + 4, none⟩) hbx).trans (hcx n hn 4 (by omega))
  have f5 := (hB.cell (p := ⟨bx, offx + n * 12 + 5, none⟩) hbx).trans (hcx n hn 5 (by omega))
  have f6 := (hB.cell (p := ⟨bx, offx + n * 12 + 6, none⟩) hbx).trans (hcx n hn 6 (by omega))
  have f7 := (hB.cell (p := ⟨bx, offx + n * 12 + 7, none⟩) hbx).trans (hcx n hn 7 (by omega))
  have f8 := (hB.cell (p := ⟨bx, offx + n * 12 + 8, none⟩) hbx).trans (hcx n hn 8 (by omega))
  have f9 := (hB.cell (p := ⟨bx, offx + n * 12 + 9, none⟩) hbx).trans (hcx n hn 9 (by omega))
  have f10 := (hB.cell (p := ⟨bx, offx + n * 12 + 10, none⟩) hbx).trans (hcx n hn 10 (by omega))
  have f11 := (hB.cell (p := ⟨bx, offx + n * 12 + 11, none⟩) hbx).trans (hcx n hn 11 (by omega))
  simp only [ExD.enc, Nat.add_zero] at f0 f1 f2 f3 f4 f5 f6 f7 f8 f9 f10 f11
  have HPR := Lib.hid hM.procs
  obtain ⟨ap, cp, hpv, -, -, hcp⟩ := hM.pv
  have HP := Lib.hid hcp
  have c4 := hk.c4
  rw [hpv] at c4
  have HBw := Lib.hid hB
  have hsz := hB.size
  clear hcx hxv hM hk hpv hcp hB
  generalize M.exprs.getD n default = x at *
  obtain ⟨ad, cd, hvd, -, -, -⟩ := hx.dv
  obtain ⟨aa, ca, hva, -, -, -⟩ := hx.av
  obtain ⟨am, cm, hvm, -, -, -⟩ := hx.mv
  have haz := hx.az
  rw [hvd] at f9
  rw [hva] at f10
  rw [hvm] at f11
  have HV := Lib.hid (And.intro hvd (And.intro hva hvm))
  clear hvd hva hvm hx
  by_cases hop : 1 ≤ x.op ∧ x.op ≤ 39
  · have HG : Hid (expressionF M n x = ((List.range 3).all (fun i => partB n x.op i (pAt x i)) && opF M n x)) := by unfold Hid expressionF; rw [decide_eq_true hop]; rfl
    obtain ⟨o1, o2⟩ := hop
    have hb1 : decide (x.op < 1) = false := by simp; omega
    have hb2 : decide (39 < x.op) = false := by simp; omega
    go_enter Try.func21, Try.ntmps21
    go_wp2_with fail
    generalize hbxx : w.alloc (.cells #[.int .i64 x.op, .int .i64 x.n, .int .i64 x.a, .int .i64 x.b, .int .i64 x.c, .int .i64 x.scope, .int .i64 x.slot, .int .i64 x.who, .int .i64 x.ty, .slice ad x.dims.length cd, .slice aa x.args.length ca, .slice am x.mat.length cm] 68) = W0 at *
    have hW0 : Below w.heap.size w W0 := by rw [← hbxx]; go_grown
    have hz0 : w.heap.size < W0.heap.size := by rw [← hbxx]; simp
    have k0 : W0.cell? ⟨w.heap.size, 0, none⟩ = some (.int .i64 x.op) := by rw [← hbxx]; simp [go_sem]
    have k1 : W0.cell? ⟨w.heap.size, 1, none⟩ = some (.int .i64 x.n) := by rw [← hbxx]; simp [go_sem]
    have k2 : W0.cell? ⟨w.heap.size, 2, none⟩ = some (.int .i64 x.a) := by rw [← hbxx]; simp [go_sem]
    have k3 : W0.cell? ⟨w.heap.size, 3, none⟩ = some (.int .i64 x.b) := by rw [← hbxx]; simp [go_sem]
    have k4 : W0.cell? ⟨w.heap.size, 4, none⟩ = some (.int .i64 x.c) := by rw [← hbxx]; simp [go_sem]
    have k5 : W0.cell? ⟨w.heap.size, 5, none⟩ = some (.int .i64 x.scope) := by rw [← hbxx]; simp [go_sem]
    have k6 : W0.cell? ⟨w.heap.size, 6, none⟩ = some (.int .i64 x.slot) := by rw [← hbxx]; simp [go_sem]
    have k7 : W0.cell? ⟨w.heap.size, 7, none⟩ = some (.int .i64 x.who) := by rw [← hbxx]; simp [go_sem]
    have k8 : W0.cell? ⟨w.heap.size, 8, none⟩ = some (.int .i64 x.ty) := by rw [← hbxx]; simp [go_sem]
    have k9 : W0.cell? ⟨w.heap.size, 9, none⟩ = some (.slice ad x.dims.length cd) := by rw [← hbxx]; simp [go_sem]
    have k10 : W0.cell? ⟨w.heap.size, 10, none⟩ = some (.slice aa x.args.length ca) := by rw [← hbxx]; simp [go_sem]
    have k11 : W0.cell? ⟨w.heap.size, 11, none⟩ = some (.slice am x.mat.length cm) := by rw [← hbxx]; simp [go_sem]
    clear hbxx
    have HK0 := Lib.hid k0
    have HK1 := Lib.hid k1
    have HK2 := Lib.hid k2
    have HK3 := Lib.hid k3
    have HK4 := Lib.hid k4
    have HK5 := Lib.hid k5
    have HK6 := Lib.hid k6
    have HK7 := Lib.hid k7
    have HK8 := Lib.hid k8
    have HK9 := Lib.hid k9
    have HK10 := Lib.hid k10
    have HK11 := Lib.hid k11
    clear k0 k1 k2 k3 k4 k5 k6 k7 k8 k9 k10 k11 f0 f1 f2 f3 f4 f5 f6 f7 f8 f9 f10 f11 c6
    have HC4 := Lib.hid c4
    clear c4
    obtain ⟨np, hnp⟩ : ∃ np, partsF x.op = np := ⟨_, rfl⟩
    have hnp3 : np ≤ 3 := by rw [← hnp]; exact partsF_le _
    have HNP := Lib.hid hnp
    clear hnp
    go_loopg [31] 3 (fun gg i wr => ∃ k : Nat, k ≤ 3 ∧ gg = 3 - k ∧ i = .int .i64 k ∧ Below W0.heap.size W0 wr ∧ Hid ((List.range k).all (fun i => partB n x.op i (pAt x i)) = true))
    case atStart => exact ⟨0, by omega, rfl, rfl, Below.refl _ _, rfl⟩
    case round =>
      obtain ⟨k, hk, rfl, rfl, hD, hS⟩ := hrel
      have hDw : Below w.heap.size w wr := hW0.trans (hD.mono (by omega))
      have hDz := hD.size
      have hDz2 := hDw.size
      have hDz3 : w.heap.size < wr.heap.size := by omega
      have k0 := (hD.cell (p := ⟨w.heap.size, 0, none⟩) hz0).trans HK0.out
      by_cases hlt : k < 3
      · have HS := range_step hS.out (p := fun i => partB n x.op i (pAt x i)) (k := k)
        have HF := range_fail (p := fun i => partB n x.op i (pAt x i)) hlt
        have hk3 : k = 0 ∨ k = 1 ∨ k = 2 := by omega
        rcases hk3 with rfl | rfl | rfl
        · have HPB : Hid (partB n x.op 0 (pAt x 0) = if 0 < np then inB n x.a else x.a == -1) := by
            unfold Hid partB; rw [HNP.out]; rfl
          rw [show ((0 : Nat) : Int) = 0 from rfl]
          have hix : ∀ W, (Instr.index 76 (.agg #[.int .i64 x.a, .int .i64 x.b, .int .i64 x.c]) (.int .i64 0)).run Try.prog W = .ok (.int .i64 x.a) W := fun _ => by rfl
          by_cases hi : 0 < np
          · cases hp : inB n x.a
            · have HN := Lib.hid (HF (by rw [HPB.out, if_pos hi, hp]))
              have HI := Lib.hid hp
              clear hp HS HF
              go_wp2_with fail
              refine (parts_any x.op _).mono ?_
              rintro e w1 ⟨rfl, rfl⟩
              rw [HNP.out]
              go_wp2_with fail
              refine (below_any _ _ [x.a] _ (sl_at ?_)).mono ?_
              · simp
              rintro e w1 ⟨rfl, rfl⟩
              rw [belowF_one, HI.out]
              go_wp2
              go_ret
              exact ⟨retb (by rw [HG.out, HN.out]; rfl), by go_grown⟩
            · have HN := Lib.hid (HS (by rw [HPB.out, if_pos hi, hp]))
              have HI := Lib.hid hp
              clear hp HS HF
              go_wp2_with fail
              refine (parts_any x.op _).mono ?_
              rintro e w1 ⟨rfl, rfl⟩
              rw [HNP.out]
              go_wp2_with fail
              refine (below_any _ _ [x.a] _ (sl_at ?_)).mono ?_
              · simp
              rintro e w1 ⟨rfl, rfl⟩
              rw [belowF_one, HI.out]
              go_wp2_with fail
              refine (parts_any x.op _).mono ?_
              rintro e w1 ⟨rfl, rfl⟩
              rw [HNP.out]
              go_wp2_with fail
              go_roundg 2
              case measure => omega
              case rel => exact ⟨1, by omega, by omega, rfl, hD.alloc hDz _, HN⟩
          · cases hp : (x.a == -1)
            · have HN := Lib.hid (HF (by rw [HPB.out, if_neg hi, hp]))
              have hp2 : (x.a != -1) = true := by simpa using hp
              clear hp HS HF
              go_wp2_with fail
              refine (parts_any x.op _).mono ?_
              rintro e w1 ⟨rfl, rfl⟩
              rw [HNP.out]
              go_wp2_with fail
              refine (parts_any x.op _).mono ?_
              rintro e w1 ⟨rfl, rfl⟩
              rw [HNP.out]
              go_wp2_with fail
              go_ret
              exact ⟨retb (by rw [HG.out, HN.out]; rfl), hDw⟩
            · have HN := Lib.hid (HS (by rw [HPB.out, if_neg hi, hp]))
              have hp2 : (x.a != -1) = false := by simpa using hp
              clear hp HS HF
              go_wp2_with fail
              refine (parts_any x.op _).mono ?_
              rintro e w1 ⟨rfl, rfl⟩
              rw [HNP.out]
              go_wp2_with fail
              refine (parts_any x.op _).mono ?_
              rintro e w1 ⟨rfl, rfl⟩
              rw [HNP.out]
              go_wp2_with fail
              go_roundg 2
              case measure => omega
              case rel => exact ⟨1, by omega, by omega, rfl, hD, HN⟩
        · have HPB : Hid (partB n x.op 1 (pAt x 1) = if 1 < np then inB n x.b else x.b == -1) := by
            unfold Hid partB; rw [HNP.out]; rfl
          rw [show ((1 : Nat) : Int) = 1 from rfl]
          have hix : ∀ W, (Instr.index 76 (.agg #[.int .i64 x.a, .int .i64 x.b, .int .i64 x.c]) (.int .i64 1)).run Try.prog W = .ok (.int .i64 x.b) W := fun _ => by rfl
          by_cases hi : 1 < np
          · cases hp : inB n x.b
            · have HN := Lib.hid (HF (by rw [HPB.out, if_pos hi, hp]))
              have HI := Lib.hid hp
              clear hp HS HF
              go_wp2_with fail
              refine (parts_any x.op _).mono ?_
              rintro e w1 ⟨rfl, rfl⟩
              rw [HNP.out]
              go_wp2_with fail
              refine (below_any _ _ [x.b] _ (sl_at ?_)).mono ?_
              · simp
              rintro e w1 ⟨rfl, rfl⟩
              rw [belowF_one, HI.out]
              go_wp2
              go_ret
              exact ⟨retb (by rw [HG.out, HN.out]; rfl), by go_grown⟩
            · have HN := Lib.hid (HS (by rw [HPB.out, if_pos hi, hp]))
              have HI := Lib.hid hp
              clear hp HS HF
              go_wp2_with fail
              refine (parts_any x.op _).mono ?_
              rintro e w1 ⟨rfl, rfl⟩
              rw [HNP.out]
              go_wp2_with fail
              refine (below_any _ _ [x.b] _ (sl_at ?_)).mono ?_
              · simp
              rintro e w1 ⟨rfl, rfl⟩
              rw [belowF_one, HI.out]
              go_wp2_with fail
              refine (parts_any x.op _).mono ?_
              rintro e w1 ⟨rfl, rfl⟩
              rw [HNP.out]
              go_wp2_with fail
              go_roundg 1
              case measure => omega
              case rel => exact ⟨2, by omega, by omega, rfl, hD.alloc hDz _, HN⟩
          · cases hp : (x.b == -1)
            · have HN := Lib.hid (HF (by rw [HPB.out, if_neg hi, hp]))
              have hp2 : (x.b != -1) = true := by simpa using hp
              clear hp HS HF
              go_wp2_with fail
              refine (parts_any x.op _).mono ?_
              rintro e w1 ⟨rfl, rfl⟩
              rw [HNP.out]
              go_wp2_with fail
              refine (parts_any x.op _).mono ?_
              rintro e w1 ⟨rfl, rfl⟩
              rw [HNP.out]
              go_wp2_with fail
              go_ret
              exact ⟨retb (by rw [HG.out, HN.out]; rfl), hDw⟩
            · have HN := Lib.hid (HS (by rw [HPB.out, if_neg hi, hp]))
              have hp2 : (x.b != -1) = false := by simpa using hp
              clear hp HS HF
              go_wp2_with fail
              refine (parts_any x.op _).mono ?_
              rintro e w1 ⟨rfl, rfl⟩
              rw [HNP.out]
              go_wp2_with fail
              refine (parts_any x.op _).mono ?_
              rintro e w1 ⟨rfl, rfl⟩
              rw [HNP.out]
              go_wp2_with fail
              go_roundg 1
              case measure => omega
              case rel => exact ⟨2, by omega, by omega, rfl, hD, HN⟩
        · have HPB : Hid (partB n x.op 2 (pAt x 2) = if 2 < np then inB n x.c else x.c == -1) := by
            unfold Hid partB; rw [HNP.out]; rfl
          rw [show ((2 : Nat) : Int) = 2 from rfl]
          have hix : ∀ W, (Instr.index 76 (.agg #[.int .i64 x.a, .int .i64 x.b, .int .i64 x.c]) (.int .i64 2)).run Try.prog W = .ok (.int .i64 x.c) W := fun _ => by rfl
          by_cases hi : 2 < np
          · cases hp : inB n x.c
            · have HN := Lib.hid (HF (by rw [HPB.out, if_pos hi, hp]))
              have HI := Lib.hid hp
              clear hp HS HF
              go_wp2_with fail
              refine (parts_any x.op _).mono ?_
              rintro e w1 ⟨rfl, rfl⟩
              rw [HNP.out]
              go_wp2_with fail
              refine (below_any _ _ [x.c] _ (sl_at ?_)).mono ?_
              · simp
              rintro e w1 ⟨rfl, rfl⟩
              rw [belowF_one, HI.out]
              go_wp2
              go_ret
              exact ⟨retb (by rw [HG.out, HN.out]; rfl), by go_grown⟩
            · have HN := Lib.hid (HS (by rw [HPB.out, if_pos hi, hp]))
              have HI := Lib.hid hp
              clear hp HS HF
              go_wp2_with fail
              refine (parts_any x.op _).mono ?_
              rintro e w1 ⟨rfl, rfl⟩
              rw [HNP.out]
              go_wp2_with fail
              refine (below_any _ _ [x.c] _ (sl_at ?_)).mono ?_
              · simp
              rintro e w1 ⟨rfl, rfl⟩
              rw [belowF_one, HI.out]
              go_wp2_with fail
              refine (parts_any x.op _).mono ?_
              rintro e w1 ⟨rfl, rfl⟩
              rw [HNP.out]
              go_wp2_with fail
              go_roundg 0
              case measure => omega
              case rel => exact ⟨3, by omega, by omega, rfl, hD.alloc hDz _, HN⟩
          · cases hp : (x.c == -1)
            · have HN := Lib.hid (HF (by rw [HPB.out, if_neg hi, hp]))
              have hp2 : (x.c != -1) = true := by simpa using hp
              clear hp HS HF
              go_wp2_with fail
              refine (parts_any x.op _).mono ?_
              rintro e w1 ⟨rfl, rfl⟩
              rw [HNP.out]
              go_wp2_with fail
              refine (parts_any x.op _).mono ?_
              rintro e w1 ⟨rfl, rfl⟩
              rw [HNP.out]
              go_wp2_with fail
              go_ret
              exact ⟨retb (by rw [HG.out, HN.out]; rfl), hDw⟩
            · have HN := Lib.hid (HS (by rw [HPB.out, if_neg hi, hp]))
              have hp2 : (x.c != -1) = false := by simpa using hp
              clear hp HS HF
              go_wp2_with fail
              refine (parts_any x.op _).mono ?_
              rintro e w1 ⟨rfl, rfl⟩
              rw [HNP.out]
              go_wp2_with fail
              refine (parts_any x.op _).mono ?_
              rintro e w1 ⟨rfl, rfl⟩
              rw [HNP.out]
              go_wp2_with fail
              go_roundg 0
              case measure => omega
              case rel => exact ⟨3, by omega, by omega, rfl, hD, HN⟩
      · obtain rfl : k = 3 := by omega
        have HG2 : Hid (expressionF M n x = opF M n x) := by unfold Hid; rw [HG.out, hS.out]; rfl
        clear HG hS
        have k1 := (hD.cell (p := ⟨w.heap.size, 1, none⟩) hz0).trans HK1.out
        have k2 := (hD.cell (p := ⟨w.heap.size, 2, none⟩) hz0).trans HK2.out
        have k3 := (hD.cell (p := ⟨w.heap.size, 3, none⟩) hz0).trans HK3.out
        have k4 := (hD.cell (p := ⟨w.heap.size, 4, none⟩) hz0).trans HK4.out
        have k5 := (hD.cell (p := ⟨w.heap.size, 5, none⟩) hz0).trans HK5.out
        have k6 := (hD.cell (p := ⟨w.heap.size, 6, none⟩) hz0).trans HK6.out
        have k7 := (hD.cell (p := ⟨w.heap.size, 7, none⟩) hz0).trans HK7.out
        have k8 := (hD.cell (p := ⟨w.heap.size, 8, none⟩) hz0).trans HK8.out
        have k9 := (hD.cell (p := ⟨w.heap.size, 9, none⟩) hz0).trans HK9.out
        have k10 := (hD.cell (p := ⟨w.heap.size, 10, none⟩) hz0).trans HK10.out
        have k11 := (hD.cell (p := ⟨w.heap.size, 11, none⟩) hz0).trans HK11.out
        have hDb := hD.size
        by_cases h1 : x.op = 1
        · have HO : Hid (expressionF M n x = fitF 32 true x.n) := by unfold Hid; rw [HG2.out]; unfold opF; rw [if_pos h1]
          have HFI := Lib.hid HE.out.fi
          have hq1 : (x.op == 1) = true := by simp; omega
          clear h1
          go_wp2_with fail
          refine (HFI.out _ hDw).mono ?_
          rintro e w1 ⟨rfl, hB1⟩
          have hB2 := hDw.trans (hB1.mono hDw.size)
          clear hB1
          go_wp2
          go_ret
          exact ⟨retb HO.out.symm, hB2⟩
        by_cases h2 : x.op = 2
        · have HO : Hid (expressionF M n x = variableF M n x.scope x.slot x.who x.ty x.dims) := by unfold Hid; rw [HG2.out]; unfold opF; rw [if_neg h1, if_pos h2]
          have HFI := Lib.hid HE.out.va
          rw [HV.out.1] at HFI
          have hq1 : (x.op == 1) = false := by simp; omega
          have hq2 : (x.op == 2) = true := by simp; omega
          clear h1 h2
          go_wp2_with fail
          refine (HFI.out _ hDw).mono ?_
          rintro e w1 ⟨rfl, hB1⟩
          have hB2 := hDw.trans (hB1.mono hDw.size)
          clear hB1
          go_wp2
          go_ret
          exact ⟨retb HO.out.symm, hB2⟩
        by_cases h3 : x.op = 30
        · have HO : Hid (expressionF M n x = (matchedF M n x.args x.mat && (x.n == 0 || x.n == 1))) := by unfold Hid; rw [HG2.out]; unfold opF; rw [if_neg h1, if_neg h2, if_pos h3]
          have HFI := Lib.hid HE.out.ma
          rw [HV.out.2.1, HV.out.2.2] at HFI
          have hq1 : (x.op == 1) = false := by simp; omega
          have hq2 : (x.op == 2) = false := by simp; omega
          have hq30 : (x.op == 30) = true := by simp; omega
          clear h1 h2 h3
          cases hmt : matchedF M n x.args x.mat
          all_goals
            have HMT := Lib.hid hmt
            rw [hmt] at HO
            clear hmt
            go_wp2_with fail
            refine (HFI.out _ hDw).mono ?_
            rintro e w1 ⟨rfl, hDr⟩
            rw [HMT.out]
            have hB2 := hDw.trans (hDr.below.mono hDw.size)
            have k1' := (hDr.cell ⟨w.heap.size, 1, none⟩).trans k1
            clear hDr
          · go_wp2
            go_ret
            exact ⟨retb HO.out.symm, hB2⟩
          · rw [Bool.true_and] at HO
            cases hn0 : (x.n == 0)
            all_goals
              rw [hn0] at HO
              go_wp2
              go_ret
              exact ⟨retb HO.out.symm, hB2⟩
        by_cases h4 : x.op = 38
        · have HO : Hid (expressionF M n x = placesF M x) := by unfold Hid; rw [HG2.out]; unfold opF; rw [if_neg h1, if_neg h2, if_neg h3, if_pos h4]
          have HFI := Lib.hid HE.out.pl
          unfold ExD.val at HFI
          rw [HV.out.1, HV.out.2.1, HV.out.2.2] at HFI
          have hq1 : (x.op == 1) = false := by simp; omega
          have hq2 : (x.op == 2) = false := by simp; omega
          have hq30 : (x.op == 30) = false := by simp; omega
          have hq38 : (x.op == 38) = true := by simp; omega
          clear h1 h2 h3 h4
          go_wp2_with fail
          refine (HFI.out _ hDw).mono ?_
          rintro e w1 ⟨rfl, hB1⟩
          have hB2 := hDw.trans (hB1.mono hDw.size)
          clear hB1
          go_wp2
          go_ret
          exact ⟨retb HO.out.symm, hB2⟩
        by_cases h5 : x.op = 39
        · have HO : Hid (expressionF M n x = (decide (0 ≤ x.n) && decide (x.n < 1073741824) && procF M x.n && ((x.args.length : Int) == parAt M x.n) && belowF n x.args)) := by unfold Hid; rw [HG2.out]; unfold opF; rw [if_neg h1, if_neg h2, if_neg h3, if_neg h4, if_pos h5]; rfl
          have HPT := Lib.hid HE.out.pt
          have HBL := Lib.hid HE.out.bl
          rw [HV.out.2.1] at HBL
          have hq1 : (x.op == 1) = false := by simp; omega
          have hq2 : (x.op == 2) = false := by simp; omega
          have hq30 : (x.op == 30) = false := by simp; omega
          have hq38 : (x.op == 38) = false := by simp; omega
          have hq39 : (x.op == 39) = true := by simp; omega
          clear h1 h2 h3 h4 h5
          cases g1 : decide (0 ≤ x.n)
          · rw [g1] at HO
            go_wp2_with fail
            go_quiet (fail)
            go_wp2
            go_ret
            exact ⟨retb HO.out.symm, below_drewN hDw _⟩
          · rw [g1, Bool.true_and] at HO
            cases g2 : decide (x.n < 1073741824)
            · rw [g2] at HO
              go_wp2_with fail
              go_quiet (fail)
              go_wp2
              go_ret
              exact ⟨retb HO.out.symm, below_drewN hDw _⟩
            · rw [g2, Bool.true_and] at HO
              cases g3 : procF M x.n
              · rw [g3] at HO
                rw [g3] at HPT
                clear g3
                go_wp2_with fail
                go_quiet ((go_at_call 31; exact quiet_left (HPT.out _ (below_drewN hDw _))))
                go_wp2
                go_ret
                exact ⟨retb HO.out.symm, below_drewN hDw _⟩
              · rw [g3, Bool.true_and] at HO
                rw [g3] at HPT
                have hpn : 0 ≤ x.n ∧ x.n < M.procs.length := by
                  simp only [procF, decide_eq_true_eq] at g3
                  exact ⟨g3.1, g3.2.1⟩
                obtain ⟨p1, p2⟩ := hpn
                have hpl : x.n.toNat < M.procs.length := by omega
                obtain ⟨bp, offp, rfl, hbp, hcp⟩ := HP.out (by omega)
                have r1 := (HBw.out.cell (p := ⟨bp, offp + x.n.toNat * 10 + 1, none⟩) hbp).trans (hcp _ hpl 1 (by omega))
                simp only [PrD.enc] at r1
                have r2 := (hDw.cell (p := ⟨bp, offp + x.n.toNat * 10 + 1, none⟩) (Nat.lt_of_lt_of_le hbp hsz)).trans r1
                have c4r := (hDw.cell (p := ⟨b, 4, none⟩) hbl).trans HC4.out
                have HPA : Hid (parAt M x.n = (M.procs.getD x.n.toNat default).params) := rfl
                rw [HPA.out] at HO
                clear r1 hcp g3
                generalize (M.procs.getD x.n.toNat default).params = par at *
                cases g4 : ((x.args.length : Int) == par)
                · rw [g4] at HO
                  go_wp2_with fail
                  go_quiet ((go_at_call 31; exact quiet_left (HPT.out _ (below_drewN hDw _))))
                  go_wp2
                  go_ret
                  exact ⟨retb HO.out.symm, below_drewN hDw _⟩
                · rw [g4, Bool.true_and] at HO
                  go_wp2_with fail
                  go_quiet ((first | (go_at_call 31; exact quiet_left (HPT.out _ (below_drewN hDw _))) | (go_at_call 27; exact quiet_left (HBL.out _ (below_drewN hDw _)))))
                  go_wp2
                  go_ret
                  exact ⟨retb HO.out.symm, below_drewN hDw _⟩
        have HO : Hid (expressionF M n x = true) := by unfold Hid; rw [HG2.out]; unfold opF; rw [if_neg h1, if_neg h2, if_neg h3, if_neg h4, if_neg h5]
        have hq1 : (x.op == 1) = false := by simp; omega
        have hq2 : (x.op == 2) = false := by simp; omega
        have hq30 : (x.op == 30) = false := by simp; omega
        have hq38 : (x.op == 38) = false := by simp; omega
        have hq39 : (x.op == 39) = false := by simp; omega
        clear h1 h2 h3 h4 h5
        go_wp2
        go_ret
        exact ⟨retb HO.out.symm, hDw⟩
  · have HG : Hid (expressionF M n x = false) := by unfold Hid expressionF; rw [decide_eq_false hop]; rfl
    go_enter Try.func21, Try.ntmps21
    go_wp2_with fail
    all_goals first
      | (go_ret; exact ⟨retb HG.out.symm, by go_grown⟩)
      | (exfalso; omega)
end Go.Proofs.Ytblpajbacdbgpaa

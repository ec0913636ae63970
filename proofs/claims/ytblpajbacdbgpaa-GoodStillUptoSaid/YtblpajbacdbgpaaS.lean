/-
  Contract of good's statement, kind by kind. Conditions: the model is laid as data; the checker's cells.
-/
import Derived.Test.YtblpajbacdbgpaaR
import Derived.Deep.RegionHeld3
namespace Go.Proofs.Ytblpajbacdbgpaa
open Go.ChangeShapes Go.WideShapes Go.ChangeAt Go.RowKit Go.Deep Go.Joins
def statementF (M : MoD) (x : TrD) : Bool :=
  if x.kind = 1 ∨ x.kind = 3 then inB M.exprs.length x.a && (x.b == -1) && emptyF x true
  else if x.kind = 2 then targetF M x.a && inB M.exprs.length x.b && emptyF x true
  else if x.kind = 4 then (x.a == -1) && (x.b == -1) && belowF M.exprs.length x.args && decide (x.mat.length = 0) && decide (x.text.size ≤ 256) && (x.n == 0)
  else if x.kind = 5 then inB M.exprs.length x.a && (x.b == -1) && decide (1 ≤ x.args.length) && decide (x.args.length ≤ 8) && belowF M.exprs.length x.args && decide (x.mat.length = 0) && ((x.n == 0) || (x.n == 1)) && x.text.toList.isEmpty
  else if x.kind = 6 then inB M.exprs.length x.a && (x.b == -1) && takenF M x && decide (0 ≤ x.n) && decide (x.n ≤ 3) && x.text.toList.isEmpty
  else if x.kind = 7 ∨ x.kind = 8 then (x.a == -1) && (x.b == -1) && emptyF x true
  else if x.kind = 9 then targetF M x.a && (x.b == -1) && decide (0 ≤ x.n) && decide (x.n < M.shapes.length) && emptyF x false
  else false
/-- What the walks of a statement lean on. -/
structure StE (M : MoD) (b : Nat) (x : TrD) (w : World) : Prop where
  pl : ∀ a W, Below w.heap.size w W → Calls Try.prog 34 #[.pointer (some ⟨b, 0, none⟩), .int .i64 a] W fun e w' => e = .returned (.bool (inB M.exprs.length a)) ∧ Below W.heap.size W w'
  tg : ∀ a W, Below w.heap.size w W → Calls Try.prog 36 #[.pointer (some ⟨b, 0, none⟩), .int .i64 a] W fun e w' => e = .returned (.bool (targetF M a)) ∧ Below W.heap.size W w'
  em : ∀ n W, Below w.heap.size w W → Calls Try.prog 35 #[x.st, .bool true, .bool n, .bool true] W fun e w' => e = .returned (.bool (emptyF x n)) ∧ Below W.heap.size W w'
  tk : ∀ W, Below w.heap.size w W → Calls Try.prog 37 #[.pointer (some ⟨b, 0, none⟩), x.st] W fun e w' => e = .returned (.bool (takenF M x)) ∧ Below W.heap.size W w'
  bl : ∀ W, Below w.heap.size w W → Calls Try.prog 27 #[.int .i64 M.exprs.length, x.av] W fun e w' => e = .returned (.bool (belowF M.exprs.length x.args)) ∧ W = w'
theorem stE (M : MoD) (w0 : World) (hM : M.ok w0) (b : Nat) (x : TrD) (w : World) (hB : Below w0.heap.size w0 w) (hk : Ck w b M) (hx : x.ok w0) : StE M b x w where
  pl a W hW := place_any M w0 hM b a W (hk.keep hW)
  tg a W hW := target_any M w0 hM b a W (hB.trans (hW.mono hB.size)) (hk.keep hW)
  em n W _ := empty_any x n w0 W hx
  tk W hW := taken_any M w0 hM b x W (hB.trans (hW.mono hB.size)) (hk.keep hW) hx
  bl W hW := below_any _ _ _ W (hx.av.keep (hB.trans (hW.mono hB.size)))
set_option maxHeartbeats 4000000 in
set_option maxRecDepth 100000 in
theorem st_1 (M : MoD) (b : Nat) (x : TrD) (w : World) (HE : Hid (StE M b x w)) (aa am : Option Addr) (ca cm : Nat) (hva : x.av = .slice aa x.args.length ca) (hvm : x.mv = .slice am x.mat.length cm) (hkd : x.kind = 1 ∨ x.kind = 3) :
    Calls Try.prog 32 #[.pointer (some ⟨b, 0, none⟩), x.st] w fun e w' => e = .returned (.bool (statementF M x)) ∧ Below w.heap.size w w' := by
  have Hem := Lib.hid HE.out.em
  have Hpl := Lib.hid HE.out.pl
  have HG : Hid (statementF M x = ((inB M.exprs.length x.a && (x.b == -1)) && emptyF x true)) := by
    unfold Hid statementF
    rw [if_pos (by omega)]
  clear HE
  unfold TrD.st at *
  rw [hva, hvm]
  rw [hva, hvm] at Hem
  clear hva hvm
  generalize x.kind = kd at *
  rcases hkd with rfl | rfl
  all_goals
    cases hp0 : inB M.exprs.length x.a
    · have HP0 := Lib.hid hp0
      rw [hp0, Bool.false_and, Bool.false_and] at HG
      clear hp0
      go_enter Try.func32, Try.ntmps32
      go_wp2_with fail
      (with_reducible refine (Hpl.out x.a _ ((Below.refl _ _).alloc (Nat.le_refl _) _)).mono ?_)
      rintro e w1 ⟨rfl, hB1⟩
      rw [HP0.out]
      have hC1 : Below w.heap.size w w1 := ((Below.refl _ _).alloc (Nat.le_refl _) _).trans (hB1.mono (by simp))
      have hc1 := bcell hB1
      have hz1 := hC1.size
      have hy1 : w.heap.size < w1.heap.size := by have := hB1.size; (try simp at this); omega
      clear hB1
      go_wp2
      go_ret
      exact ⟨retb HG.out.symm, by first | exact hC1 | go_grown⟩
    · have HP0 := Lib.hid hp0
      rw [hp0, Bool.true_and] at HG
      clear hp0
      cases hp1 : (x.b == -1)
      · have HP1 := Lib.hid hp1
        rw [hp1, Bool.false_and] at HG
        go_enter Try.func32, Try.ntmps32
        go_wp2_with fail
        (with_reducible refine (Hpl.out x.a _ ((Below.refl _ _).alloc (Nat.le_refl _) _)).mono ?_)
        rintro e w1 ⟨rfl, hB1⟩
        rw [HP0.out]
        have hC1 : Below w.heap.size w w1 := ((Below.refl _ _).alloc (Nat.le_refl _) _).trans (hB1.mono (by simp))
        have hc1 := bcell hB1
        have hz1 := hC1.size
        have hy1 : w.heap.size < w1.heap.size := by have := hB1.size; (try simp at this); omega
        clear hB1
        go_wp2
        go_ret
        exact ⟨retb HG.out.symm, by first | exact hC1 | go_grown⟩
      · have HP1 := Lib.hid hp1
        rw [hp1, Bool.true_and] at HG
        go_enter Try.func32, Try.ntmps32
        go_wp2_with fail
        (with_reducible refine (Hpl.out x.a _ ((Below.refl _ _).alloc (Nat.le_refl _) _)).mono ?_)
        rintro e w1 ⟨rfl, hB1⟩
        rw [HP0.out]
        have hC1 : Below w.heap.size w w1 := ((Below.refl _ _).alloc (Nat.le_refl _) _).trans (hB1.mono (by simp))
        have hc1 := bcell hB1
        have hz1 := hC1.size
        have hy1 : w.heap.size < w1.heap.size := by have := hB1.size; (try simp at this); omega
        clear hB1
        go_wp2_with fail
        (with_reducible refine (Hem.out true _ hC1).mono ?_)
        rintro e wz ⟨rfl, hBz⟩
        have hCz : Below w.heap.size w wz := hC1.trans (hBz.mono hC1.size)
        go_wp2
        go_ret
        exact ⟨retb HG.out.symm, by first | exact hCz | go_grown⟩
set_option maxHeartbeats 4000000 in
set_option maxRecDepth 100000 in
theorem st_2 (M : MoD) (b : Nat) (x : TrD) (w : World) (HE : Hid (StE M b x w)) (aa am : Option Addr) (ca cm : Nat) (hva : x.av = .slice aa x.args.length ca) (hvm : x.mv = .slice am x.mat.length cm) (hkd : x.kind = 2) :
    Calls Try.prog 32 #[.pointer (some ⟨b, 0, none⟩), x.st] w fun e w' => e = .returned (.bool (statementF M x)) ∧ Below w.heap.size w w' := by
  have Hem := Lib.hid HE.out.em
  have Hpl := Lib.hid HE.out.pl
  have Htg := Lib.hid HE.out.tg
  have HG : Hid (statementF M x = ((targetF M x.a && inB M.exprs.length x.b) && emptyF x true)) := by
    unfold Hid statementF
    rw [if_neg (by omega)]
    rw [if_pos (by omega)]
  clear HE
  unfold TrD.st at *
  rw [hva, hvm]
  rw [hva, hvm] at Hem
  clear hva hvm
  generalize x.kind = kd at *
  subst hkd
  cases hp0 : targetF M x.a
  · have HP0 := Lib.hid hp0
    rw [hp0, Bool.false_and, Bool.false_and] at HG
    clear hp0
    go_enter Try.func32, Try.ntmps32
    go_wp2_with fail
    (with_reducible refine (Htg.out x.a _ ((Below.refl _ _).alloc (Nat.le_refl _) _)).mono ?_)
    rintro e w1 ⟨rfl, hB1⟩
    rw [HP0.out]
    have hC1 : Below w.heap.size w w1 := ((Below.refl _ _).alloc (Nat.le_refl _) _).trans (hB1.mono (by simp))
    have hc1 := bcell hB1
    have hz1 := hC1.size
    have hy1 : w.heap.size < w1.heap.size := by have := hB1.size; (try simp at this); omega
    clear hB1
    go_wp2
    go_ret
    exact ⟨retb HG.out.symm, by first | exact hC1 | go_grown⟩
  · have HP0 := Lib.hid hp0
    rw [hp0, Bool.true_and] at HG
    clear hp0
    cases hp1 : inB M.exprs.length x.b
    · have HP1 := Lib.hid hp1
      rw [hp1, Bool.false_and] at HG
      clear hp1
      go_enter Try.func32, Try.ntmps32
      go_wp2_with fail
      (with_reducible refine (Htg.out x.a _ ((Below.refl _ _).alloc (Nat.le_refl _) _)).mono ?_)
      rintro e w1 ⟨rfl, hB1⟩
      rw [HP0.out]
      have hC1 : Below w.heap.size w w1 := ((Below.refl _ _).alloc (Nat.le_refl _) _).trans (hB1.mono (by simp))
      have hc1 := bcell hB1
      have hz1 := hC1.size
      have hy1 : w.heap.size < w1.heap.size := by have := hB1.size; (try simp at this); omega
      clear hB1
      go_wp2_with fail
      (with_reducible refine (Hpl.out x.b _ hC1).mono ?_)
      rintro e w2 ⟨rfl, hB2⟩
      rw [HP1.out]
      have hC2 : Below w.heap.size w w2 := hC1.trans (hB2.mono hC1.size)
      have hc2 := bcell hB2
      have hz2 := hC2.size
      have hy2 : w.heap.size < w2.heap.size := by have := hB2.size; (try simp at this); omega
      clear hB2
      go_wp2
      go_ret
      exact ⟨retb HG.out.symm, by first | exact hC2 | go_grown⟩
    · have HP1 := Lib.hid hp1
      rw [hp1, Bool.true_and] at HG
      clear hp1
      go_enter Try.func32, Try.ntmps32
      go_wp2_with fail
      (with_reducible refine (Htg.out x.a _ ((Below.refl _ _).alloc (Nat.le_refl _) _)).mono ?_)
      rintro e w1 ⟨rfl, hB1⟩
      rw [HP0.out]
      have hC1 : Below w.heap.size w w1 := ((Below.refl _ _).alloc (Nat.le_refl _) _).trans (hB1.mono (by simp))
      have hc1 := bcell hB1
      have hz1 := hC1.size
      have hy1 : w.heap.size < w1.heap.size := by have := hB1.size; (try simp at this); omega
      clear hB1
      go_wp2_with fail
      (with_reducible refine (Hpl.out x.b _ hC1).mono ?_)
      rintro e w2 ⟨rfl, hB2⟩
      rw [HP1.out]
      have hC2 : Below w.heap.size w w2 := hC1.trans (hB2.mono hC1.size)
      have hc2 := bcell hB2
      have hz2 := hC2.size
      have hy2 : w.heap.size < w2.heap.size := by have := hB2.size; (try simp at this); omega
      clear hB2
      go_wp2_with fail
      (with_reducible refine (Hem.out true _ hC2).mono ?_)
      rintro e wz ⟨rfl, hBz⟩
      have hCz : Below w.heap.size w wz := hC2.trans (hBz.mono hC2.size)
      go_wp2
      go_ret
      exact ⟨retb HG.out.symm, by first | exact hCz | go_grown⟩
set_option maxHeartbeats 4000000 in
set_option maxRecDepth 100000 in
theorem st_6 (M : MoD) (b : Nat) (x : TrD) (w : World) (HE : Hid (StE M b x w)) (aa am : Option Addr) (ca cm : Nat) (hva : x.av = .slice aa x.args.length ca) (hvm : x.mv = .slice am x.mat.length cm) (hkd : x.kind = 6) :
    Calls Try.prog 32 #[.pointer (some ⟨b, 0, none⟩), x.st] w fun e w' => e = .returned (.bool (statementF M x)) ∧ Below w.heap.size w w' := by
  have Hpl := Lib.hid HE.out.pl
  have Htk := Lib.hid HE.out.tk
  have HG : Hid (statementF M x = (((((inB M.exprs.length x.a && (x.b == -1)) && takenF M x) && decide (0 ≤ x.n)) && decide (x.n ≤ 3)) && x.text.toList.isEmpty)) := by
    unfold Hid statementF
    rw [if_neg (by omega)]
    rw [if_neg (by omega)]
    rw [if_neg (by omega)]
    rw [if_neg (by omega)]
    rw [if_pos (by omega)]
  clear HE
  unfold TrD.st at *
  rw [hva, hvm]
  rw [hva, hvm] at Htk
  clear hva hvm
  generalize x.kind = kd at *
  subst hkd
  cases hp0 : inB M.exprs.length x.a
  · have HP0 := Lib.hid hp0
    rw [hp0, Bool.false_and, Bool.false_and, Bool.false_and, Bool.false_and, Bool.false_and] at HG
    clear hp0
    go_enter Try.func32, Try.ntmps32
    go_wp2_with fail
    (with_reducible refine (Hpl.out x.a _ ((Below.refl _ _).alloc (Nat.le_refl _) _)).mono ?_)
    rintro e w1 ⟨rfl, hB1⟩
    rw [HP0.out]
    have hC1 : Below w.heap.size w w1 := ((Below.refl _ _).alloc (Nat.le_refl _) _).trans (hB1.mono (by simp))
    have hc1 := bcell hB1
    have hz1 := hC1.size
    have hy1 : w.heap.size < w1.heap.size := by have := hB1.size; (try simp at this); omega
    clear hB1
    go_wp2
    go_ret
    exact ⟨retb HG.out.symm, by first | exact hC1 | go_grown⟩
  · have HP0 := Lib.hid hp0
    rw [hp0, Bool.true_and] at HG
    clear hp0
    cases hp1 : (x.b == -1)
    · have HP1 := Lib.hid hp1
      rw [hp1, Bool.false_and, Bool.false_and, Bool.false_and, Bool.false_and] at HG
      go_enter Try.func32, Try.ntmps32
      go_wp2_with fail
      (with_reducible refine (Hpl.out x.a _ ((Below.refl _ _).alloc (Nat.le_refl _) _)).mono ?_)
      rintro e w1 ⟨rfl, hB1⟩
      rw [HP0.out]
      have hC1 : Below w.heap.size w w1 := ((Below.refl _ _).alloc (Nat.le_refl _) _).trans (hB1.mono (by simp))
      have hc1 := bcell hB1
      have hz1 := hC1.size
      have hy1 : w.heap.size < w1.heap.size := by have := hB1.size; (try simp at this); omega
      clear hB1
      go_wp2
      go_ret
      exact ⟨retb HG.out.symm, by first | exact hC1 | go_grown⟩
    · have HP1 := Lib.hid hp1
      rw [hp1, Bool.true_and] at HG
      cases hp2 : takenF M x
      · have HP2 := Lib.hid hp2
        rw [hp2, Bool.false_and, Bool.false_and, Bool.false_and] at HG
        clear hp2
        go_enter Try.func32, Try.ntmps32
        go_wp2_with fail
        (with_reducible refine (Hpl.out x.a _ ((Below.refl _ _).alloc (Nat.le_refl _) _)).mono ?_)
        rintro e w1 ⟨rfl, hB1⟩
        rw [HP0.out]
        have hC1 : Below w.heap.size w w1 := ((Below.refl _ _).alloc (Nat.le_refl _) _).trans (hB1.mono (by simp))
        have hc1 := bcell hB1
        have hz1 := hC1.size
        have hy1 : w.heap.size < w1.heap.size := by have := hB1.size; (try simp at this); omega
        clear hB1
        go_wp2_with fail
        (with_reducible refine (Htk.out _ hC1).mono ?_)
        rintro e w2 ⟨rfl, hB2⟩
        rw [HP2.out]
        have hC2 : Below w.heap.size w w2 := hC1.trans (hB2.mono hC1.size)
        have hc2 := bcell hB2
        have hz2 := hC2.size
        have hy2 : w.heap.size < w2.heap.size := by have := hB2.size; (try simp at this); omega
        clear hB2
        go_wp2
        go_ret
        exact ⟨retb HG.out.symm, by first | exact hC2 | go_grown⟩
      · have HP2 := Lib.hid hp2
        rw [hp2, Bool.true_and] at HG
        clear hp2
        cases hp3 : decide (0 ≤ x.n)
        · have HP3 := Lib.hid hp3
          rw [hp3, Bool.false_and, Bool.false_and] at HG
          go_enter Try.func32, Try.ntmps32
          go_wp2_with fail
          (with_reducible refine (Hpl.out x.a _ ((Below.refl _ _).alloc (Nat.le_refl _) _)).mono ?_)
          rintro e w1 ⟨rfl, hB1⟩
          rw [HP0.out]
          have hC1 : Below w.heap.size w w1 := ((Below.refl _ _).alloc (Nat.le_refl _) _).trans (hB1.mono (by simp))
          have hc1 := bcell hB1
          have hz1 := hC1.size
          have hy1 : w.heap.size < w1.heap.size := by have := hB1.size; (try simp at this); omega
          clear hB1
          go_wp2_with fail
          (with_reducible refine (Htk.out _ hC1).mono ?_)
          rintro e w2 ⟨rfl, hB2⟩
          rw [HP2.out]
          have hC2 : Below w.heap.size w w2 := hC1.trans (hB2.mono hC1.size)
          have hc2 := bcell hB2
          have hz2 := hC2.size
          have hy2 : w.heap.size < w2.heap.size := by have := hB2.size; (try simp at this); omega
          clear hB2
          go_wp2
          go_ret
          exact ⟨retb HG.out.symm, by first | exact hC2 | go_grown⟩
        · have HP3 := Lib.hid hp3
          rw [hp3, Bool.true_and] at HG
          cases hp4 : decide (x.n ≤ 3)
          · have HP4 := Lib.hid hp4
            rw [hp4, Bool.false_and] at HG
            go_enter Try.func32, Try.ntmps32
            go_wp2_with fail
            (with_reducible refine (Hpl.out x.a _ ((Below.refl _ _).alloc (Nat.le_refl _) _)).mono ?_)
            rintro e w1 ⟨rfl, hB1⟩
            rw [HP0.out]
            have hC1 : Below w.heap.size w w1 := ((Below.refl _ _).alloc (Nat.le_refl _) _).trans (hB1.mono (by simp))
            have hc1 := bcell hB1
            have hz1 := hC1.size
            have hy1 : w.heap.size < w1.heap.size := by have := hB1.size; (try simp at this); omega
            clear hB1
            go_wp2_with fail
            (with_reducible refine (Htk.out _ hC1).mono ?_)
            rintro e w2 ⟨rfl, hB2⟩
            rw [HP2.out]
            have hC2 : Below w.heap.size w w2 := hC1.trans (hB2.mono hC1.size)
            have hc2 := bcell hB2
            have hz2 := hC2.size
            have hy2 : w.heap.size < w2.heap.size := by have := hB2.size; (try simp at this); omega
            clear hB2
            go_wp2
            go_ret
            exact ⟨retb HG.out.symm, by first | exact hC2 | go_grown⟩
          · have HP4 := Lib.hid hp4
            rw [hp4, Bool.true_and] at HG
            go_enter Try.func32, Try.ntmps32
            go_wp2_with fail
            (with_reducible refine (Hpl.out x.a _ ((Below.refl _ _).alloc (Nat.le_refl _) _)).mono ?_)
            rintro e w1 ⟨rfl, hB1⟩
            rw [HP0.out]
            have hC1 : Below w.heap.size w w1 := ((Below.refl _ _).alloc (Nat.le_refl _) _).trans (hB1.mono (by simp))
            have hc1 := bcell hB1
            have hz1 := hC1.size
            have hy1 : w.heap.size < w1.heap.size := by have := hB1.size; (try simp at this); omega
            clear hB1
            go_wp2_with fail
            (with_reducible refine (Htk.out _ hC1).mono ?_)
            rintro e w2 ⟨rfl, hB2⟩
            rw [HP2.out]
            have hC2 : Below w.heap.size w w2 := hC1.trans (hB2.mono hC1.size)
            have hc2 := bcell hB2
            have hz2 := hC2.size
            have hy2 : w.heap.size < w2.heap.size := by have := hB2.size; (try simp at this); omega
            clear hB2
            go_wp2
            go_ret
            exact ⟨retb HG.out.symm, by first | exact hC2 | go_grown⟩
set_option maxHeartbeats 4000000 in
set_option maxRecDepth 100000 in
theorem st_7 (M : MoD) (b : Nat) (x : TrD) (w : World) (HE : Hid (StE M b x w)) (aa am : Option Addr) (ca cm : Nat) (hva : x.av = .slice aa x.args.length ca) (hvm : x.mv = .slice am x.mat.length cm) (hkd : x.kind = 7 ∨ x.kind = 8) :
    Calls Try.prog 32 #[.pointer (some ⟨b, 0, none⟩), x.st] w fun e w' => e = .returned (.bool (statementF M x)) ∧ Below w.heap.size w w' := by
  have Hem := Lib.hid HE.out.em
  have HG : Hid (statementF M x = (((x.a == -1) && (x.b == -1)) && emptyF x true)) := by
    unfold Hid statementF
    rw [if_neg (by omega)]
    rw [if_neg (by omega)]
    rw [if_neg (by omega)]
    rw [if_neg (by omega)]
    rw [if_neg (by omega)]
    rw [if_pos (by omega)]
  clear HE
  unfold TrD.st at *
  rw [hva, hvm]
  rw [hva, hvm] at Hem
  clear hva hvm
  generalize x.kind = kd at *
  rcases hkd with rfl | rfl
  all_goals
    cases hp0 : (x.a == -1)
    · have HP0 := Lib.hid hp0
      rw [hp0, Bool.false_and, Bool.false_and] at HG
      go_enter Try.func32, Try.ntmps32
      go_wp2
      go_ret
      exact ⟨retb HG.out.symm, by go_grown⟩
    · have HP0 := Lib.hid hp0
      rw [hp0, Bool.true_and] at HG
      cases hp1 : (x.b == -1)
      · have HP1 := Lib.hid hp1
        rw [hp1, Bool.false_and] at HG
        go_enter Try.func32, Try.ntmps32
        go_wp2
        go_ret
        exact ⟨retb HG.out.symm, by go_grown⟩
      · have HP1 := Lib.hid hp1
        rw [hp1, Bool.true_and] at HG
        go_enter Try.func32, Try.ntmps32
        go_wp2_with fail
        (with_reducible refine (Hem.out true _ ((Below.refl _ _).alloc (Nat.le_refl _) _)).mono ?_)
        rintro e wz ⟨rfl, hBz⟩
        have hCz : Below w.heap.size w wz := ((Below.refl _ _).alloc (Nat.le_refl _) _).trans (hBz.mono (by simp))
        go_wp2
        go_ret
        exact ⟨retb HG.out.symm, by first | exact hCz | go_grown⟩

end Go.Proofs.Ytblpajbacdbgpaa

/-
  A region that draws its order, whose operations are quiet in a class of worlds: calls that make memory, whose results do not hang on the world, among them. Plain laws.
-/
import Derived.Test.YtblpajbacdbgpaaS
namespace Go.Proofs.Ytblpajbacdbgpaa
open Go.ChangeShapes Go.WideShapes Go.ChangeAt Go.RowKit Go.Deep Go.Joins
/-- A world of a class. -/
structure Wd (S : World → Prop) where
  w : World
  h : S w
theorem wp_region_quiet_cls {P : Program} {S : World → Prop} {id : Nat} {Q : Exit → Act → World → Prop} {a : Act} {w : World} {l : List Oper} (hm : P.follows .mixedOrders = true) (hB : Region.lexB .any l.toArray = true) (hS : S w.drew)
    (h : wpQuiet P l.toArray (fun w' => ∃ n : Wd S, w' = n.w) (fun a' => ∀ w', (∃ n : Wd S, w' = n.w) → Q .normal a' w') l a) : (Code.region id l.toArray true).wp P Q a w :=
  wp_region_quiet (C := fun w' => ∃ n : Wd S, w' = n.w) hm hB ⟨⟨_, hS⟩, rfl⟩ (by simpa using h)
/-- The worlds behind one in which the row lies. -/
def Sb (W : World) : World → Prop := fun w' => Below W.heap.size W w'
instance {W : World} : Nonempty (Wd (Sb W)) := ⟨⟨W, Below.refl _ _⟩⟩
theorem Wd.out {S : World → Prop} {w : World} (h : ∃ n : Wd S, w = n.w) : S w := by
  obtain ⟨n, rfl⟩ := h
  exact n.h
theorem Wd.cell {W : World} (n : Wd (Sb W)) {p : Addr} {v : Value} (hp : p.block < W.heap.size) (h : W.cell? p = some v) : n.w.cell? p = some v := (Below.cell (p := p) n.h hp).trans h
theorem Wd.call {W : World} {P : Program} {f : FuncId} {args : Array Value} {v : Value} (n : Wd (Sb W)) (h : Calls P f args n.w fun e w' => e = .returned v ∧ Below n.w.heap.size n.w w') :
    Calls P f args n.w fun e w'' => e = .returned v ∧ ∃ m : Wd (Sb W), w'' = m.w :=
  h.mono fun _ _ ⟨he, hb⟩ => ⟨he, ⟨_, Below.trans n.h (hb.mono n.h.size)⟩, rfl⟩
theorem Wd.same {W : World} {P : Program} {f : FuncId} {args : Array Value} {v : Value} (n : Wd (Sb W)) (h : Calls P f args n.w fun e w' => e = .returned v ∧ n.w = w') :
    Calls P f args n.w fun e w'' => e = .returned v ∧ ∃ m : Wd (Sb W), w'' = m.w :=
  h.mono fun _ _ ⟨he, hb⟩ => ⟨he, n, hb.symm⟩
set_option maxHeartbeats 8000000 in
set_option maxRecDepth 100000 in
theorem st_9 (M : MoD) (b : Nat) (x : TrD) (w : World) (HE : Hid (StE M b x w)) (aa am as_ : Option Addr) (ca cm cs : Nat) (hva : x.av = .slice aa x.args.length ca) (hvm : x.mv = .slice am x.mat.length cm) (hkd : x.kind = 9) (hbl : b < w.heap.size) (cq : w.cell? ⟨b, 2, none⟩ = some (.slice as_ M.shapes.length cs)) :
    Calls Try.prog 32 #[.pointer (some ⟨b, 0, none⟩), x.st] w fun e w' => e = .returned (.bool (statementF M x)) ∧ Below w.heap.size w w' := by
  have HTG := Lib.hid HE.out.tg
  have HEM := Lib.hid HE.out.em
  have HG : Hid (statementF M x = ((((targetF M x.a && (x.b == -1)) && decide (0 ≤ x.n)) && decide (x.n < M.shapes.length)) && emptyF x false)) := by
    unfold Hid statementF
    rw [if_neg (by omega)]
    rw [if_neg (by omega)]
    rw [if_neg (by omega)]
    rw [if_neg (by omega)]
    rw [if_neg (by omega)]
    rw [if_neg (by omega)]
    rw [if_pos (by omega)]
  clear HE
  unfold TrD.st at *
  rw [hva, hvm] at HEM ⊢
  clear hva hvm
  generalize x.kind = kd at *
  subst hkd
  have hbl2 : b ≠ w.heap.size := by omega
  have hW : Hid (Below w.heap.size w (w.alloc (.cells #[.int .i64 9, .int .i64 x.a, .int .i64 x.b, .int .i64 x.n, .slice aa x.args.length ca, .slice am x.mat.length cm, .string x.text] 71))) := (Below.refl _ _).alloc (Nat.le_refl _) _
  have hW2 : Hid (w.heap.size < (w.alloc (.cells #[.int .i64 9, .int .i64 x.a, .int .i64 x.b, .int .i64 x.n, .slice aa x.args.length ca, .slice am x.mat.length cm, .string x.text] 71)).heap.size) := by unfold Hid; simp
  cases hp0 : targetF M x.a
  · rw [hp0, Bool.false_and, Bool.false_and, Bool.false_and, Bool.false_and] at HG
    have HT : Hid (∀ W, Below w.heap.size w W → Calls Try.prog 36 #[.pointer (some ⟨b, 0, none⟩), .int .i64 x.a] W fun e w' => e = .returned (.bool false) ∧ Below W.heap.size W w') := by
      intro W hW
      have := HTG.out x.a W hW
      rw [hp0] at this
      exact this
    clear hp0 HTG
    go_enter Try.func32, Try.ntmps32
    go_wp2_with fail
    generalize hW0 : w.alloc (.cells #[.int .i64 9, .int .i64 x.a, .int .i64 x.b, .int .i64 x.n, .slice aa x.args.length ca, .slice am x.mat.length cm, .string x.text] 71) = W0 at *
    have k0 : W0.cell? ⟨w.heap.size, 0, none⟩ = some (.int .i64 9) := by rw [← hW0]; simp [go_sem]
    have k1 : W0.cell? ⟨w.heap.size, 1, none⟩ = some (.int .i64 x.a) := by rw [← hW0]; simp [go_sem]
    have k2 : W0.cell? ⟨w.heap.size, 2, none⟩ = some (.int .i64 x.b) := by rw [← hW0]; simp [go_sem]
    have k3 : W0.cell? ⟨w.heap.size, 3, none⟩ = some (.int .i64 x.n) := by rw [← hW0]; simp [go_sem]
    have k4 : W0.cell? ⟨w.heap.size, 4, none⟩ = some (.slice aa x.args.length ca) := by rw [← hW0]; simp [go_sem]
    have k5 : W0.cell? ⟨w.heap.size, 5, none⟩ = some (.slice am x.mat.length cm) := by rw [← hW0]; simp [go_sem]
    have k6 : W0.cell? ⟨w.heap.size, 6, none⟩ = some (.string x.text) := by rw [← hW0]; simp [go_sem]
    clear hW0
    have hbW : b < W0.heap.size := Nat.lt_of_lt_of_le hbl hW.out.size
    have l0 : ∀ n : Wd (Sb W0), n.w.cell? ⟨w.heap.size, 0, none⟩ = _ := fun n => n.cell hW2.out k0
    have l1 : ∀ n : Wd (Sb W0), n.w.cell? ⟨w.heap.size, 1, none⟩ = _ := fun n => n.cell hW2.out k1
    have l2 : ∀ n : Wd (Sb W0), n.w.cell? ⟨w.heap.size, 2, none⟩ = _ := fun n => n.cell hW2.out k2
    have l3 : ∀ n : Wd (Sb W0), n.w.cell? ⟨w.heap.size, 3, none⟩ = _ := fun n => n.cell hW2.out k3
    have l4 : ∀ n : Wd (Sb W0), n.w.cell? ⟨w.heap.size, 4, none⟩ = _ := fun n => n.cell hW2.out k4
    have l5 : ∀ n : Wd (Sb W0), n.w.cell? ⟨w.heap.size, 5, none⟩ = _ := fun n => n.cell hW2.out k5
    have l6 : ∀ n : Wd (Sb W0), n.w.cell? ⟨w.heap.size, 6, none⟩ = _ := fun n => n.cell hW2.out k6
    have lq : ∀ n : Wd (Sb W0), n.w.cell? ⟨b, 2, none⟩ = _ := fun n => n.cell hbW ((hW.out.cell (p := ⟨b, 2, none⟩) hbl).trans cq)
    clear k0 k1 k2 k3 k4 k5 k6
    refine wp_region_quiet_cls (S := Sb W0) (by kernel_rfl) (by kernel_rfl) (Below.refl _ _).drew ?_
    repeat (go_big_quiet_step (first | (go_at_call 36; exact Wd.call _ (HT.out _ (hW.out.trans (Below.mono (Wd.h _) hW.out.size))))))
    refine wpQuiet_nil ?_
    intro w2 hw2
    have hB2 : Below w.heap.size w w2 := hW.out.trans (Below.mono (Wd.out hw2) hW.out.size)
    clear l0 l1 l2 l3 l4 l5 l6 lq hw2
    go_wp2
    go_ret
    exact ⟨retb HG.out.symm, hB2⟩
  · rw [hp0, Bool.true_and] at HG
    have HT : Hid (∀ W, Below w.heap.size w W → Calls Try.prog 36 #[.pointer (some ⟨b, 0, none⟩), .int .i64 x.a] W fun e w' => e = .returned (.bool true) ∧ Below W.heap.size W w') := by
      intro W hW
      have := HTG.out x.a W hW
      rw [hp0] at this
      exact this
    clear hp0 HTG
    cases hp1 : (x.b == -1)
    · rw [hp1, Bool.false_and, Bool.false_and, Bool.false_and] at HG
      go_enter Try.func32, Try.ntmps32
      go_wp2_with fail
      generalize hW0 : w.alloc (.cells #[.int .i64 9, .int .i64 x.a, .int .i64 x.b, .int .i64 x.n, .slice aa x.args.length ca, .slice am x.mat.length cm, .string x.text] 71) = W0 at *
      have k0 : W0.cell? ⟨w.heap.size, 0, none⟩ = some (.int .i64 9) := by rw [← hW0]; simp [go_sem]
      have k1 : W0.cell? ⟨w.heap.size, 1, none⟩ = some (.int .i64 x.a) := by rw [← hW0]; simp [go_sem]
      have k2 : W0.cell? ⟨w.heap.size, 2, none⟩ = some (.int .i64 x.b) := by rw [← hW0]; simp [go_sem]
      have k3 : W0.cell? ⟨w.heap.size, 3, none⟩ = some (.int .i64 x.n) := by rw [← hW0]; simp [go_sem]
      have k4 : W0.cell? ⟨w.heap.size, 4, none⟩ = some (.slice aa x.args.length ca) := by rw [← hW0]; simp [go_sem]
      have k5 : W0.cell? ⟨w.heap.size, 5, none⟩ = some (.slice am x.mat.length cm) := by rw [← hW0]; simp [go_sem]
      have k6 : W0.cell? ⟨w.heap.size, 6, none⟩ = some (.string x.text) := by rw [← hW0]; simp [go_sem]
      clear hW0
      have hbW : b < W0.heap.size := Nat.lt_of_lt_of_le hbl hW.out.size
      have l0 : ∀ n : Wd (Sb W0), n.w.cell? ⟨w.heap.size, 0, none⟩ = _ := fun n => n.cell hW2.out k0
      have l1 : ∀ n : Wd (Sb W0), n.w.cell? ⟨w.heap.size, 1, none⟩ = _ := fun n => n.cell hW2.out k1
      have l2 : ∀ n : Wd (Sb W0), n.w.cell? ⟨w.heap.size, 2, none⟩ = _ := fun n => n.cell hW2.out k2
      have l3 : ∀ n : Wd (Sb W0), n.w.cell? ⟨w.heap.size, 3, none⟩ = _ := fun n => n.cell hW2.out k3
      have l4 : ∀ n : Wd (Sb W0), n.w.cell? ⟨w.heap.size, 4, none⟩ = _ := fun n => n.cell hW2.out k4
      have l5 : ∀ n : Wd (Sb W0), n.w.cell? ⟨w.heap.size, 5, none⟩ = _ := fun n => n.cell hW2.out k5
      have l6 : ∀ n : Wd (Sb W0), n.w.cell? ⟨w.heap.size, 6, none⟩ = _ := fun n => n.cell hW2.out k6
      have lq : ∀ n : Wd (Sb W0), n.w.cell? ⟨b, 2, none⟩ = _ := fun n => n.cell hbW ((hW.out.cell (p := ⟨b, 2, none⟩) hbl).trans cq)
      clear k0 k1 k2 k3 k4 k5 k6
      refine wp_region_quiet_cls (S := Sb W0) (by kernel_rfl) (by kernel_rfl) (Below.refl _ _).drew ?_
      repeat (go_big_quiet_step (first | (go_at_call 36; exact Wd.call _ (HT.out _ (hW.out.trans (Below.mono (Wd.h _) hW.out.size))))))
      refine wpQuiet_nil ?_
      intro w2 hw2
      have hB2 : Below w.heap.size w w2 := hW.out.trans (Below.mono (Wd.out hw2) hW.out.size)
      clear l0 l1 l2 l3 l4 l5 l6 lq hw2
      go_wp2
      go_ret
      exact ⟨retb HG.out.symm, hB2⟩
    · rw [hp1, Bool.true_and] at HG
      cases hp2 : decide (0 ≤ x.n)
      · rw [hp2, Bool.false_and, Bool.false_and] at HG
        go_enter Try.func32, Try.ntmps32
        go_wp2_with fail
        generalize hW0 : w.alloc (.cells #[.int .i64 9, .int .i64 x.a, .int .i64 x.b, .int .i64 x.n, .slice aa x.args.length ca, .slice am x.mat.length cm, .string x.text] 71) = W0 at *
        have k0 : W0.cell? ⟨w.heap.size, 0, none⟩ = some (.int .i64 9) := by rw [← hW0]; simp [go_sem]
        have k1 : W0.cell? ⟨w.heap.size, 1, none⟩ = some (.int .i64 x.a) := by rw [← hW0]; simp [go_sem]
        have k2 : W0.cell? ⟨w.heap.size, 2, none⟩ = some (.int .i64 x.b) := by rw [← hW0]; simp [go_sem]
        have k3 : W0.cell? ⟨w.heap.size, 3, none⟩ = some (.int .i64 x.n) := by rw [← hW0]; simp [go_sem]
        have k4 : W0.cell? ⟨w.heap.size, 4, none⟩ = some (.slice aa x.args.length ca) := by rw [← hW0]; simp [go_sem]
        have k5 : W0.cell? ⟨w.heap.size, 5, none⟩ = some (.slice am x.mat.length cm) := by rw [← hW0]; simp [go_sem]
        have k6 : W0.cell? ⟨w.heap.size, 6, none⟩ = some (.string x.text) := by rw [← hW0]; simp [go_sem]
        clear hW0
        have hbW : b < W0.heap.size := Nat.lt_of_lt_of_le hbl hW.out.size
        have l0 : ∀ n : Wd (Sb W0), n.w.cell? ⟨w.heap.size, 0, none⟩ = _ := fun n => n.cell hW2.out k0
        have l1 : ∀ n : Wd (Sb W0), n.w.cell? ⟨w.heap.size, 1, none⟩ = _ := fun n => n.cell hW2.out k1
        have l2 : ∀ n : Wd (Sb W0), n.w.cell? ⟨w.heap.size, 2, none⟩ = _ := fun n => n.cell hW2.out k2
        have l3 : ∀ n : Wd (Sb W0), n.w.cell? ⟨w.heap.size, 3, none⟩ = _ := fun n => n.cell hW2.out k3
        have l4 : ∀ n : Wd (Sb W0), n.w.cell? ⟨w.heap.size, 4, none⟩ = _ := fun n => n.cell hW2.out k4
        have l5 : ∀ n : Wd (Sb W0), n.w.cell? ⟨w.heap.size, 5, none⟩ = _ := fun n => n.cell hW2.out k5
        have l6 : ∀ n : Wd (Sb W0), n.w.cell? ⟨w.heap.size, 6, none⟩ = _ := fun n => n.cell hW2.out k6
        have lq : ∀ n : Wd (Sb W0), n.w.cell? ⟨b, 2, none⟩ = _ := fun n => n.cell hbW ((hW.out.cell (p := ⟨b, 2, none⟩) hbl).trans cq)
        clear k0 k1 k2 k3 k4 k5 k6
        refine wp_region_quiet_cls (S := Sb W0) (by kernel_rfl) (by kernel_rfl) (Below.refl _ _).drew ?_
        repeat (go_big_quiet_step (first | (go_at_call 36; exact Wd.call _ (HT.out _ (hW.out.trans (Below.mono (Wd.h _) hW.out.size))))))
        refine wpQuiet_nil ?_
        intro w2 hw2
        have hB2 : Below w.heap.size w w2 := hW.out.trans (Below.mono (Wd.out hw2) hW.out.size)
        clear l0 l1 l2 l3 l4 l5 l6 lq hw2
        go_wp2
        go_ret
        exact ⟨retb HG.out.symm, hB2⟩
      · rw [hp2, Bool.true_and] at HG
        cases hp3 : decide (x.n < M.shapes.length)
        · rw [hp3, Bool.false_and] at HG
          go_enter Try.func32, Try.ntmps32
          go_wp2_with fail
          generalize hW0 : w.alloc (.cells #[.int .i64 9, .int .i64 x.a, .int .i64 x.b, .int .i64 x.n, .slice aa x.args.length ca, .slice am x.mat.length cm, .string x.text] 71) = W0 at *
          have k0 : W0.cell? ⟨w.heap.size, 0, none⟩ = some (.int .i64 9) := by rw [← hW0]; simp [go_sem]
          have k1 : W0.cell? ⟨w.heap.size, 1, none⟩ = some (.int .i64 x.a) := by rw [← hW0]; simp [go_sem]
          have k2 : W0.cell? ⟨w.heap.size, 2, none⟩ = some (.int .i64 x.b) := by rw [← hW0]; simp [go_sem]
          have k3 : W0.cell? ⟨w.heap.size, 3, none⟩ = some (.int .i64 x.n) := by rw [← hW0]; simp [go_sem]
          have k4 : W0.cell? ⟨w.heap.size, 4, none⟩ = some (.slice aa x.args.length ca) := by rw [← hW0]; simp [go_sem]
          have k5 : W0.cell? ⟨w.heap.size, 5, none⟩ = some (.slice am x.mat.length cm) := by rw [← hW0]; simp [go_sem]
          have k6 : W0.cell? ⟨w.heap.size, 6, none⟩ = some (.string x.text) := by rw [← hW0]; simp [go_sem]
          clear hW0
          have hbW : b < W0.heap.size := Nat.lt_of_lt_of_le hbl hW.out.size
          have l0 : ∀ n : Wd (Sb W0), n.w.cell? ⟨w.heap.size, 0, none⟩ = _ := fun n => n.cell hW2.out k0
          have l1 : ∀ n : Wd (Sb W0), n.w.cell? ⟨w.heap.size, 1, none⟩ = _ := fun n => n.cell hW2.out k1
          have l2 : ∀ n : Wd (Sb W0), n.w.cell? ⟨w.heap.size, 2, none⟩ = _ := fun n => n.cell hW2.out k2
          have l3 : ∀ n : Wd (Sb W0), n.w.cell? ⟨w.heap.size, 3, none⟩ = _ := fun n => n.cell hW2.out k3
          have l4 : ∀ n : Wd (Sb W0), n.w.cell? ⟨w.heap.size, 4, none⟩ = _ := fun n => n.cell hW2.out k4
          have l5 : ∀ n : Wd (Sb W0), n.w.cell? ⟨w.heap.size, 5, none⟩ = _ := fun n => n.cell hW2.out k5
          have l6 : ∀ n : Wd (Sb W0), n.w.cell? ⟨w.heap.size, 6, none⟩ = _ := fun n => n.cell hW2.out k6
          have lq : ∀ n : Wd (Sb W0), n.w.cell? ⟨b, 2, none⟩ = _ := fun n => n.cell hbW ((hW.out.cell (p := ⟨b, 2, none⟩) hbl).trans cq)
          clear k0 k1 k2 k3 k4 k5 k6
          refine wp_region_quiet_cls (S := Sb W0) (by kernel_rfl) (by kernel_rfl) (Below.refl _ _).drew ?_
          repeat (go_big_quiet_step (first | (go_at_call 36; exact Wd.call _ (HT.out _ (hW.out.trans (Below.mono (Wd.h _) hW.out.size))))))
          refine wpQuiet_nil ?_
          intro w2 hw2
          have hB2 : Below w.heap.size w w2 := hW.out.trans (Below.mono (Wd.out hw2) hW.out.size)
          clear l0 l1 l2 l3 l4 l5 l6 lq hw2
          go_wp2
          go_ret
          exact ⟨retb HG.out.symm, hB2⟩
        · rw [hp3, Bool.true_and] at HG
          go_enter Try.func32, Try.ntmps32
          go_wp2_with fail
          generalize hW0 : w.alloc (.cells #[.int .i64 9, .int .i64 x.a, .int .i64 x.b, .int .i64 x.n, .slice aa x.args.length ca, .slice am x.mat.length cm, .string x.text] 71) = W0 at *
          have k0 : W0.cell? ⟨w.heap.size, 0, none⟩ = some (.int .i64 9) := by rw [← hW0]; simp [go_sem]
          have k1 : W0.cell? ⟨w.heap.size, 1, none⟩ = some (.int .i64 x.a) := by rw [← hW0]; simp [go_sem]
          have k2 : W0.cell? ⟨w.heap.size, 2, none⟩ = some (.int .i64 x.b) := by rw [← hW0]; simp [go_sem]
          have k3 : W0.cell? ⟨w.heap.size, 3, none⟩ = some (.int .i64 x.n) := by rw [← hW0]; simp [go_sem]
          have k4 : W0.cell? ⟨w.heap.size, 4, none⟩ = some (.slice aa x.args.length ca) := by rw [← hW0]; simp [go_sem]
          have k5 : W0.cell? ⟨w.heap.size, 5, none⟩ = some (.slice am x.mat.length cm) := by rw [← hW0]; simp [go_sem]
          have k6 : W0.cell? ⟨w.heap.size, 6, none⟩ = some (.string x.text) := by rw [← hW0]; simp [go_sem]
          clear hW0
          have hbW : b < W0.heap.size := Nat.lt_of_lt_of_le hbl hW.out.size
          have l0 : ∀ n : Wd (Sb W0), n.w.cell? ⟨w.heap.size, 0, none⟩ = _ := fun n => n.cell hW2.out k0
          have l1 : ∀ n : Wd (Sb W0), n.w.cell? ⟨w.heap.size, 1, none⟩ = _ := fun n => n.cell hW2.out k1
          have l2 : ∀ n : Wd (Sb W0), n.w.cell? ⟨w.heap.size, 2, none⟩ = _ := fun n => n.cell hW2.out k2
          have l3 : ∀ n : Wd (Sb W0), n.w.cell? ⟨w.heap.size, 3, none⟩ = _ := fun n => n.cell hW2.out k3
          have l4 : ∀ n : Wd (Sb W0), n.w.cell? ⟨w.heap.size, 4, none⟩ = _ := fun n => n.cell hW2.out k4
          have l5 : ∀ n : Wd (Sb W0), n.w.cell? ⟨w.heap.size, 5, none⟩ = _ := fun n => n.cell hW2.out k5
          have l6 : ∀ n : Wd (Sb W0), n.w.cell? ⟨w.heap.size, 6, none⟩ = _ := fun n => n.cell hW2.out k6
          have lq : ∀ n : Wd (Sb W0), n.w.cell? ⟨b, 2, none⟩ = _ := fun n => n.cell hbW ((hW.out.cell (p := ⟨b, 2, none⟩) hbl).trans cq)
          clear k0 k1 k2 k3 k4 k5 k6
          refine wp_region_quiet_cls (S := Sb W0) (by kernel_rfl) (by kernel_rfl) (Below.refl _ _).drew ?_
          repeat (go_big_quiet_step (first | (go_at_call 36; exact Wd.call _ (HT.out _ (hW.out.trans (Below.mono (Wd.h _) hW.out.size)))) | (go_at_call 35; exact Wd.call _ (HEM.out false _ (hW.out.trans (Below.mono (Wd.h _) hW.out.size))))))
          refine wpQuiet_nil ?_
          intro w2 hw2
          have hB2 : Below w.heap.size w w2 := hW.out.trans (Below.mono (Wd.out hw2) hW.out.size)
          clear l0 l1 l2 l3 l4 l5 l6 lq hw2
          go_wp2
          go_ret
          exact ⟨retb HG.out.symm, hB2⟩
set_option maxHeartbeats 8000000 in
set_option maxRecDepth 100000 in
theorem st_5 (M : MoD) (b : Nat) (x : TrD) (w : World) (HE : Hid (StE M b x w)) (aa am ax : Option Addr) (ca cm cx : Nat) (hva : x.av = .slice aa x.args.length ca) (hvm : x.mv = .slice am x.mat.length cm) (hkd : x.kind = 5) (hbl : b < w.heap.size) (cq : w.cell? ⟨b, 6, none⟩ = some (.slice ax M.exprs.length cx)) :
    Calls Try.prog 32 #[.pointer (some ⟨b, 0, none⟩), x.st] w fun e w' => e = .returned (.bool (statementF M x)) ∧ Below w.heap.size w w' := by
  have HPL := Lib.hid HE.out.pl
  have HBL := Lib.hid HE.out.bl
  have HG : Hid (statementF M x = (((((((inB M.exprs.length x.a && (x.b == -1)) && decide (1 ≤ x.args.length)) && decide (x.args.length ≤ 8)) && belowF M.exprs.length x.args) && decide (x.mat.length = 0)) && ((x.n == 0) || (x.n == 1))) && x.text.toList.isEmpty)) := by
    unfold Hid statementF
    rw [if_neg (by omega)]
    rw [if_neg (by omega)]
    rw [if_neg (by omega)]
    rw [if_pos (by omega)]
  clear HE
  unfold TrD.st at *
  rw [hva, hvm]
  rw [hva] at HBL
  clear hva hvm
  generalize x.kind = kd at *
  subst hkd
  have hbl2 : b ≠ w.heap.size := by omega
  have hW : Hid (Below w.heap.size w (w.alloc (.cells #[.int .i64 5, .int .i64 x.a, .int .i64 x.b, .int .i64 x.n, .slice aa x.args.length ca, .slice am x.mat.length cm, .string x.text] 71))) := (Below.refl _ _).alloc (Nat.le_refl _) _
  have hW2 : Hid (w.heap.size < (w.alloc (.cells #[.int .i64 5, .int .i64 x.a, .int .i64 x.b, .int .i64 x.n, .slice aa x.args.length ca, .slice am x.mat.length cm, .string x.text] 71)).heap.size) := by unfold Hid; simp
  cases hp0 : inB M.exprs.length x.a
  · rw [hp0, Bool.false_and, Bool.false_and, Bool.false_and, Bool.false_and, Bool.false_and, Bool.false_and, Bool.false_and] at HG
    have HT : Hid (∀ W, Below w.heap.size w W → Calls Try.prog 34 #[.pointer (some ⟨b, 0, none⟩), .int .i64 x.a] W fun e w' => e = .returned (.bool false) ∧ Below W.heap.size W w') := by
      intro W hW
      have := HPL.out x.a W hW
      rw [hp0] at this
      exact this
    clear hp0 HPL
    go_enter Try.func32, Try.ntmps32
    go_wp2_with fail
    generalize hW0 : w.alloc (.cells #[.int .i64 5, .int .i64 x.a, .int .i64 x.b, .int .i64 x.n, .slice aa x.args.length ca, .slice am x.mat.length cm, .string x.text] 71) = W0 at *
    have k0 : W0.cell? ⟨w.heap.size, 0, none⟩ = some (.int .i64 5) := by rw [← hW0]; simp [go_sem]
    have k1 : W0.cell? ⟨w.heap.size, 1, none⟩ = some (.int .i64 x.a) := by rw [← hW0]; simp [go_sem]
    have k2 : W0.cell? ⟨w.heap.size, 2, none⟩ = some (.int .i64 x.b) := by rw [← hW0]; simp [go_sem]
    have k3 : W0.cell? ⟨w.heap.size, 3, none⟩ = some (.int .i64 x.n) := by rw [← hW0]; simp [go_sem]
    have k4 : W0.cell? ⟨w.heap.size, 4, none⟩ = some (.slice aa x.args.length ca) := by rw [← hW0]; simp [go_sem]
    have k5 : W0.cell? ⟨w.heap.size, 5, none⟩ = some (.slice am x.mat.length cm) := by rw [← hW0]; simp [go_sem]
    have k6 : W0.cell? ⟨w.heap.size, 6, none⟩ = some (.string x.text) := by rw [← hW0]; simp [go_sem]
    clear hW0
    have hbW : b < W0.heap.size := Nat.lt_of_lt_of_le hbl hW.out.size
    have l0 : ∀ n : Wd (Sb W0), n.w.cell? ⟨w.heap.size, 0, none⟩ = _ := fun n => n.cell hW2.out k0
    have l1 : ∀ n : Wd (Sb W0), n.w.cell? ⟨w.heap.size, 1, none⟩ = _ := fun n => n.cell hW2.out k1
    have l2 : ∀ n : Wd (Sb W0), n.w.cell? ⟨w.heap.size, 2, none⟩ = _ := fun n => n.cell hW2.out k2
    have l3 : ∀ n : Wd (Sb W0), n.w.cell? ⟨w.heap.size, 3, none⟩ = _ := fun n => n.cell hW2.out k3
    have l4 : ∀ n : Wd (Sb W0), n.w.cell? ⟨w.heap.size, 4, none⟩ = _ := fun n => n.cell hW2.out k4
    have l5 : ∀ n : Wd (Sb W0), n.w.cell? ⟨w.heap.size, 5, none⟩ = _ := fun n => n.cell hW2.out k5
    have l6 : ∀ n : Wd (Sb W0), n.w.cell? ⟨w.heap.size, 6, none⟩ = _ := fun n => n.cell hW2.out k6
    have lq : ∀ n : Wd (Sb W0), n.w.cell? ⟨b, 6, none⟩ = _ := fun n => n.cell hbW ((hW.out.cell (p := ⟨b, 6, none⟩) hbl).trans cq)
    clear k0 k1 k2 k3 k4 k5 k6
    refine wp_region_quiet_cls (S := Sb W0) (by kernel_rfl) (by kernel_rfl) (Below.refl _ _).drew ?_
    repeat (go_big_quiet_step (first | (go_at_call 34; exact Wd.call _ (HT.out _ (hW.out.trans (Below.mono (Wd.h _) hW.out.size))))))
    refine wpQuiet_nil ?_
    intro w2 hw2
    have hB2 : Below w.heap.size w w2 := hW.out.trans (Below.mono (Wd.out hw2) hW.out.size)
    clear l0 l1 l2 l3 l4 l5 l6 lq hw2
    go_wp2
    go_ret
    exact ⟨retb HG.out.symm, hB2⟩
  · rw [hp0, Bool.true_and] at HG
    have HT : Hid (∀ W, Below w.heap.size w W → Calls Try.prog 34 #[.pointer (some ⟨b, 0, none⟩), .int .i64 x.a] W fun e w' => e = .returned (.bool true) ∧ Below W.heap.size W w') := by
      intro W hW
      have := HPL.out x.a W hW
      rw [hp0] at this
      exact this
    clear hp0 HPL
    cases hp1 : (x.b == -1)
    · rw [hp1, Bool.false_and, Bool.false_and, Bool.false_and, Bool.false_and, Bool.false_and, Bool.false_and] at HG
      go_enter Try.func32, Try.ntmps32
      go_wp2_with fail
      generalize hW0 : w.alloc (.cells #[.int .i64 5, .int .i64 x.a, .int .i64 x.b, .int .i64 x.n, .slice aa x.args.length ca, .slice am x.mat.length cm, .string x.text] 71) = W0 at *
      have k0 : W0.cell? ⟨w.heap.size, 0, none⟩ = some (.int .i64 5) := by rw [← hW0]; simp [go_sem]
      have k1 : W0.cell? ⟨w.heap.size, 1, none⟩ = some (.int .i64 x.a) := by rw [← hW0]; simp [go_sem]
      have k2 : W0.cell? ⟨w.heap.size, 2, none⟩ = some (.int .i64 x.b) := by rw [← hW0]; simp [go_sem]
      have k3 : W0.cell? ⟨w.heap.size, 3, none⟩ = some (.int .i64 x.n) := by rw [← hW0]; simp [go_sem]
      have k4 : W0.cell? ⟨w.heap.size, 4, none⟩ = some (.slice aa x.args.length ca) := by rw [← hW0]; simp [go_sem]
      have k5 : W0.cell? ⟨w.heap.size, 5, none⟩ = some (.slice am x.mat.length cm) := by rw [← hW0]; simp [go_sem]
      have k6 : W0.cell? ⟨w.heap.size, 6, none⟩ = some (.string x.text) := by rw [← hW0]; simp [go_sem]
      clear hW0
      have hbW : b < W0.heap.size := Nat.lt_of_lt_of_le hbl hW.out.size
      have l0 : ∀ n : Wd (Sb W0), n.w.cell? ⟨w.heap.size, 0, none⟩ = _ := fun n => n.cell hW2.out k0
      have l1 : ∀ n : Wd (Sb W0), n.w.cell? ⟨w.heap.size, 1, none⟩ = _ := fun n => n.cell hW2.out k1
      have l2 : ∀ n : Wd (Sb W0), n.w.cell? ⟨w.heap.size, 2, none⟩ = _ := fun n => n.cell hW2.out k2
      have l3 : ∀ n : Wd (Sb W0), n.w.cell? ⟨w.heap.size, 3, none⟩ = _ := fun n => n.cell hW2.out k3
      have l4 : ∀ n : Wd (Sb W0), n.w.cell? ⟨w.heap.size, 4, none⟩ = _ := fun n => n.cell hW2.out k4
      have l5 : ∀ n : Wd (Sb W0), n.w.cell? ⟨w.heap.size, 5, none⟩ = _ := fun n => n.cell hW2.out k5
      have l6 : ∀ n : Wd (Sb W0), n.w.cell? ⟨w.heap.size, 6, none⟩ = _ := fun n => n.cell hW2.out k6
      have lq : ∀ n : Wd (Sb W0), n.w.cell? ⟨b, 6, none⟩ = _ := fun n => n.cell hbW ((hW.out.cell (p := ⟨b, 6, none⟩) hbl).trans cq)
      clear k0 k1 k2 k3 k4 k5 k6
      refine wp_region_quiet_cls (S := Sb W0) (by kernel_rfl) (by kernel_rfl) (Below.refl _ _).drew ?_
      repeat (go_big_quiet_step (first | (go_at_call 34; exact Wd.call _ (HT.out _ (hW.out.trans (Below.mono (Wd.h _) hW.out.size))))))
      refine wpQuiet_nil ?_
      intro w2 hw2
      have hB2 : Below w.heap.size w w2 := hW.out.trans (Below.mono (Wd.out hw2) hW.out.size)
      clear l0 l1 l2 l3 l4 l5 l6 lq hw2
      go_wp2
      go_ret
      exact ⟨retb HG.out.symm, hB2⟩
    · rw [hp1, Bool.true_and] at HG
      cases hp2 : decide (1 ≤ x.args.length)
      · rw [hp2, Bool.false_and, Bool.false_and, Bool.false_and, Bool.false_and, Bool.false_and] at HG
        have hl1 : decide ((1 : Int) ≤ (x.args.length : Int)) = false := by simp only [decide_eq_false_iff_not] at hp2 ⊢; omega
        go_enter Try.func32, Try.ntmps32
        go_wp2_with fail
        generalize hW0 : w.alloc (.cells #[.int .i64 5, .int .i64 x.a, .int .i64 x.b, .int .i64 x.n, .slice aa x.args.length ca, .slice am x.mat.length cm, .string x.text] 71) = W0 at *
        have k0 : W0.cell? ⟨w.heap.size, 0, none⟩ = some (.int .i64 5) := by rw [← hW0]; simp [go_sem]
        have k1 : W0.cell? ⟨w.heap.size, 1, none⟩ = some (.int .i64 x.a) := by rw [← hW0]; simp [go_sem]
        have k2 : W0.cell? ⟨w.heap.size, 2, none⟩ = some (.int .i64 x.b) := by rw [← hW0]; simp [go_sem]
        have k3 : W0.cell? ⟨w.heap.size, 3, none⟩ = some (.int .i64 x.n) := by rw [← hW0]; simp [go_sem]
        have k4 : W0.cell? ⟨w.heap.size, 4, none⟩ = some (.slice aa x.args.length ca) := by rw [← hW0]; simp [go_sem]
        have k5 : W0.cell? ⟨w.heap.size, 5, none⟩ = some (.slice am x.mat.length cm) := by rw [← hW0]; simp [go_sem]
        have k6 : W0.cell? ⟨w.heap.size, 6, none⟩ = some (.string x.text) := by rw [← hW0]; simp [go_sem]
        clear hW0
        have hbW : b < W0.heap.size := Nat.lt_of_lt_of_le hbl hW.out.size
        have l0 : ∀ n : Wd (Sb W0), n.w.cell? ⟨w.heap.size, 0, none⟩ = _ := fun n => n.cell hW2.out k0
        have l1 : ∀ n : Wd (Sb W0), n.w.cell? ⟨w.heap.size, 1, none⟩ = _ := fun n => n.cell hW2.out k1
        have l2 : ∀ n : Wd (Sb W0), n.w.cell? ⟨w.heap.size, 2, none⟩ = _ := fun n => n.cell hW2.out k2
        have l3 : ∀ n : Wd (Sb W0), n.w.cell? ⟨w.heap.size, 3, none⟩ = _ := fun n => n.cell hW2.out k3
        have l4 : ∀ n : Wd (Sb W0), n.w.cell? ⟨w.heap.size, 4, none⟩ = _ := fun n => n.cell hW2.out k4
        have l5 : ∀ n : Wd (Sb W0), n.w.cell? ⟨w.heap.size, 5, none⟩ = _ := fun n => n.cell hW2.out k5
        have l6 : ∀ n : Wd (Sb W0), n.w.cell? ⟨w.heap.size, 6, none⟩ = _ := fun n => n.cell hW2.out k6
        have lq : ∀ n : Wd (Sb W0), n.w.cell? ⟨b, 6, none⟩ = _ := fun n => n.cell hbW ((hW.out.cell (p := ⟨b, 6, none⟩) hbl).trans cq)
        clear k0 k1 k2 k3 k4 k5 k6
        refine wp_region_quiet_cls (S := Sb W0) (by kernel_rfl) (by kernel_rfl) (Below.refl _ _).drew ?_
        repeat (go_big_quiet_step (first | (go_at_call 34; exact Wd.call _ (HT.out _ (hW.out.trans (Below.mono (Wd.h _) hW.out.size))))))
        refine wpQuiet_nil ?_
        intro w2 hw2
        have hB2 : Below w.heap.size w w2 := hW.out.trans (Below.mono (Wd.out hw2) hW.out.size)
        clear l0 l1 l2 l3 l4 l5 l6 lq hw2
        go_wp2
        go_ret
        exact ⟨retb HG.out.symm, hB2⟩
      · rw [hp2, Bool.true_and] at HG
        have hl1 : decide ((1 : Int) ≤ (x.args.length : Int)) = true := by simp only [decide_eq_true_eq] at hp2 ⊢; omega
        cases hp3 : decide (x.args.length ≤ 8)
        · rw [hp3, Bool.false_and, Bool.false_and, Bool.false_and, Bool.false_and] at HG
          have hl2 : decide ((x.args.length : Int) ≤ 8) = false := by simp only [decide_eq_false_iff_not] at hp3 ⊢; omega
          go_enter Try.func32, Try.ntmps32
          go_wp2_with fail
          generalize hW0 : w.alloc (.cells #[.int .i64 5, .int .i64 x.a, .int .i64 x.b, .int .i64 x.n, .slice aa x.args.length ca, .slice am x.mat.length cm, .string x.text] 71) = W0 at *
          have k0 : W0.cell? ⟨w.heap.size, 0, none⟩ = some (.int .i64 5) := by rw [← hW0]; simp [go_sem]
          have k1 : W0.cell? ⟨w.heap.size, 1, none⟩ = some (.int .i64 x.a) := by rw [← hW0]; simp [go_sem]
          have k2 : W0.cell? ⟨w.heap.size, 2, none⟩ = some (.int .i64 x.b) := by rw [← hW0]; simp [go_sem]
          have k3 : W0.cell? ⟨w.heap.size, 3, none⟩ = some (.int .i64 x.n) := by rw [← hW0]; simp [go_sem]
          have k4 : W0.cell? ⟨w.heap.size, 4, none⟩ = some (.slice aa x.args.length ca) := by rw [← hW0]; simp [go_sem]
          have k5 : W0.cell? ⟨w.heap.size, 5, none⟩ = some (.slice am x.mat.length cm) := by rw [← hW0]; simp [go_sem]
          have k6 : W0.cell? ⟨w.heap.size, 6, none⟩ = some (.string x.text) := by rw [← hW0]; simp [go_sem]
          clear hW0
          have hbW : b < W0.heap.size := Nat.lt_of_lt_of_le hbl hW.out.size
          have l0 : ∀ n : Wd (Sb W0), n.w.cell? ⟨w.heap.size, 0, none⟩ = _ := fun n => n.cell hW2.out k0
          have l1 : ∀ n : Wd (Sb W0), n.w.cell? ⟨w.heap.size, 1, none⟩ = _ := fun n => n.cell hW2.out k1
          have l2 : ∀ n : Wd (Sb W0), n.w.cell? ⟨w.heap.size, 2, none⟩ = _ := fun n => n.cell hW2.out k2
          have l3 : ∀ n : Wd (Sb W0), n.w.cell? ⟨w.heap.size, 3, none⟩ = _ := fun n => n.cell hW2.out k3
          have l4 : ∀ n : Wd (Sb W0), n.w.cell? ⟨w.heap.size, 4, none⟩ = _ := fun n => n.cell hW2.out k4
          have l5 : ∀ n : Wd (Sb W0), n.w.cell? ⟨w.heap.size, 5, none⟩ = _ := fun n => n.cell hW2.out k5
          have l6 : ∀ n : Wd (Sb W0), n.w.cell? ⟨w.heap.size, 6, none⟩ = _ := fun n => n.cell hW2.out k6
          have lq : ∀ n : Wd (Sb W0), n.w.cell? ⟨b, 6, none⟩ = _ := fun n => n.cell hbW ((hW.out.cell (p := ⟨b, 6, none⟩) hbl).trans cq)
          clear k0 k1 k2 k3 k4 k5 k6
          refine wp_region_quiet_cls (S := Sb W0) (by kernel_rfl) (by kernel_rfl) (Below.refl _ _).drew ?_
          repeat (go_big_quiet_step (first | (go_at_call 34; exact Wd.call _ (HT.out _ (hW.out.trans (Below.mono (Wd.h _) hW.out.size))))))
          refine wpQuiet_nil ?_
          intro w2 hw2
          have hB2 : Below w.heap.size w w2 := hW.out.trans (Below.mono (Wd.out hw2) hW.out.size)
          clear l0 l1 l2 l3 l4 l5 l6 lq hw2
          go_wp2
          go_ret
          exact ⟨retb HG.out.symm, hB2⟩
        · rw [hp3, Bool.true_and] at HG
          have hl2 : decide ((x.args.length : Int) ≤ 8) = true := by simp only [decide_eq_true_eq] at hp3 ⊢; omega
          cases hp4 : belowF M.exprs.length x.args
          · rw [hp4, Bool.false_and, Bool.false_and, Bool.false_and] at HG
            rw [hp4] at HBL
            clear hp4
            go_enter Try.func32, Try.ntmps32
            go_wp2_with fail
            generalize hW0 : w.alloc (.cells #[.int .i64 5, .int .i64 x.a, .int .i64 x.b, .int .i64 x.n, .slice aa x.args.length ca, .slice am x.mat.length cm, .string x.text] 71) = W0 at *
            have k0 : W0.cell? ⟨w.heap.size, 0, none⟩ = some (.int .i64 5) := by rw [← hW0]; simp [go_sem]
            have k1 : W0.cell? ⟨w.heap.size, 1, none⟩ = some (.int .i64 x.a) := by rw [← hW0]; simp [go_sem]
            have k2 : W0.cell? ⟨w.heap.size, 2, none⟩ = some (.int .i64 x.b) := by rw [← hW0]; simp [go_sem]
            have k3 : W0.cell? ⟨w.heap.size, 3, none⟩ = some (.int .i64 x.n) := by rw [← hW0]; simp [go_sem]
            have k4 : W0.cell? ⟨w.heap.size, 4, none⟩ = some (.slice aa x.args.length ca) := by rw [← hW0]; simp [go_sem]
            have k5 : W0.cell? ⟨w.heap.size, 5, none⟩ = some (.slice am x.mat.length cm) := by rw [← hW0]; simp [go_sem]
            have k6 : W0.cell? ⟨w.heap.size, 6, none⟩ = some (.string x.text) := by rw [← hW0]; simp [go_sem]
            clear hW0
            have hbW : b < W0.heap.size := Nat.lt_of_lt_of_le hbl hW.out.size
            have l0 : ∀ n : Wd (Sb W0), n.w.cell? ⟨w.heap.size, 0, none⟩ = _ := fun n => n.cell hW2.out k0
            have l1 : ∀ n : Wd (Sb W0), n.w.cell? ⟨w.heap.size, 1, none⟩ = _ := fun n => n.cell hW2.out k1
            have l2 : ∀ n : Wd (Sb W0), n.w.cell? ⟨w.heap.size, 2, none⟩ = _ := fun n => n.cell hW2.out k2
            have l3 : ∀ n : Wd (Sb W0), n.w.cell? ⟨w.heap.size, 3, none⟩ = _ := fun n => n.cell hW2.out k3
            have l4 : ∀ n : Wd (Sb W0), n.w.cell? ⟨w.heap.size, 4, none⟩ = _ := fun n => n.cell hW2.out k4
            have l5 : ∀ n : Wd (Sb W0), n.w.cell? ⟨w.heap.size, 5, none⟩ = _ := fun n => n.cell hW2.out k5
            have l6 : ∀ n : Wd (Sb W0), n.w.cell? ⟨w.heap.size, 6, none⟩ = _ := fun n => n.cell hW2.out k6
            have lq : ∀ n : Wd (Sb W0), n.w.cell? ⟨b, 6, none⟩ = _ := fun n => n.cell hbW ((hW.out.cell (p := ⟨b, 6, none⟩) hbl).trans cq)
            clear k0 k1 k2 k3 k4 k5 k6
            refine wp_region_quiet_cls (S := Sb W0) (by kernel_rfl) (by kernel_rfl) (Below.refl _ _).drew ?_
            repeat (go_big_quiet_step (first | (go_at_call 34; exact Wd.call _ (HT.out _ (hW.out.trans (Below.mono (Wd.h _) hW.out.size)))) | (go_at_call 27; exact Wd.same _ (HBL.out _ (hW.out.trans (Below.mono (Wd.h _) hW.out.size))))))
            refine wpQuiet_nil ?_
            intro w2 hw2
            have hB2 : Below w.heap.size w w2 := hW.out.trans (Below.mono (Wd.out hw2) hW.out.size)
            clear l0 l1 l2 l3 l4 l5 l6 lq hw2
            go_wp2
            go_ret
            exact ⟨retb HG.out.symm, hB2⟩
          · rw [hp4, Bool.true_and] at HG
            rw [hp4] at HBL
            clear hp4
            cases hp5 : decide (x.mat.length = 0)
            · rw [hp5, Bool.false_and, Bool.false_and] at HG
              have hm1 : ((x.mat.length : Int) == 0) = false := by simpa using hp5
              clear hp5
              go_enter Try.func32, Try.ntmps32
              go_wp2_with fail
              generalize hW0 : w.alloc (.cells #[.int .i64 5, .int .i64 x.a, .int .i64 x.b, .int .i64 x.n, .slice aa x.args.length ca, .slice am x.mat.length cm, .string x.text] 71) = W0 at *
              have k0 : W0.cell? ⟨w.heap.size, 0, none⟩ = some (.int .i64 5) := by rw [← hW0]; simp [go_sem]
              have k1 : W0.cell? ⟨w.heap.size, 1, none⟩ = some (.int .i64 x.a) := by rw [← hW0]; simp [go_sem]
              have k2 : W0.cell? ⟨w.heap.size, 2, none⟩ = some (.int .i64 x.b) := by rw [← hW0]; simp [go_sem]
              have k3 : W0.cell? ⟨w.heap.size, 3, none⟩ = some (.int .i64 x.n) := by rw [← hW0]; simp [go_sem]
              have k4 : W0.cell? ⟨w.heap.size, 4, none⟩ = some (.slice aa x.args.length ca) := by rw [← hW0]; simp [go_sem]
              have k5 : W0.cell? ⟨w.heap.size, 5, none⟩ = some (.slice am x.mat.length cm) := by rw [← hW0]; simp [go_sem]
              have k6 : W0.cell? ⟨w.heap.size, 6, none⟩ = some (.string x.text) := by rw [← hW0]; simp [go_sem]
              clear hW0
              have hbW : b < W0.heap.size := Nat.lt_of_lt_of_le hbl hW.out.size
              have l0 : ∀ n : Wd (Sb W0), n.w.cell? ⟨w.heap.size, 0, none⟩ = _ := fun n => n.cell hW2.out k0
              have l1 : ∀ n : Wd (Sb W0), n.w.cell? ⟨w.heap.size, 1, none⟩ = _ := fun n => n.cell hW2.out k1
              have l2 : ∀ n : Wd (Sb W0), n.w.cell? ⟨w.heap.size, 2, none⟩ = _ := fun n => n.cell hW2.out k2
              have l3 : ∀ n : Wd (Sb W0), n.w.cell? ⟨w.heap.size, 3, none⟩ = _ := fun n => n.cell hW2.out k3
              have l4 : ∀ n : Wd (Sb W0), n.w.cell? ⟨w.heap.size, 4, none⟩ = _ := fun n => n.cell hW2.out k4
              have l5 : ∀ n : Wd (Sb W0), n.w.cell? ⟨w.heap.size, 5, none⟩ = _ := fun n => n.cell hW2.out k5
              have l6 : ∀ n : Wd (Sb W0), n.w.cell? ⟨w.heap.size, 6, none⟩ = _ := fun n => n.cell hW2.out k6
              have lq : ∀ n : Wd (Sb W0), n.w.cell? ⟨b, 6, none⟩ = _ := fun n => n.cell hbW ((hW.out.cell (p := ⟨b, 6, none⟩) hbl).trans cq)
              clear k0 k1 k2 k3 k4 k5 k6
              refine wp_region_quiet_cls (S := Sb W0) (by kernel_rfl) (by kernel_rfl) (Below.refl _ _).drew ?_
              repeat (go_big_quiet_step (first | (go_at_call 34; exact Wd.call _ (HT.out _ (hW.out.trans (Below.mono (Wd.h _) hW.out.size)))) | (go_at_call 27; exact Wd.same _ (HBL.out _ (hW.out.trans (Below.mono (Wd.h _) hW.out.size))))))
              refine wpQuiet_nil ?_
              intro w2 hw2
              have hB2 : Below w.heap.size w w2 := hW.out.trans (Below.mono (Wd.out hw2) hW.out.size)
              clear l0 l1 l2 l3 l4 l5 l6 lq hw2
              go_wp2
              go_ret
              exact ⟨retb HG.out.symm, hB2⟩
            · rw [hp5, Bool.true_and] at HG
              have hm1 : ((x.mat.length : Int) == 0) = true := by simpa using hp5
              clear hp5
              cases hp6 : ((x.n == 0) || (x.n == 1))
              · rw [hp6, Bool.false_and] at HG
                have hn0 : (x.n == 0) = false := by cases h : (x.n == 0) <;> simp_all
                have hn1 : (x.n == 1) = false := by cases h : (x.n == 1) <;> simp_all
                clear hp6
                go_enter Try.func32, Try.ntmps32
                go_wp2_with fail
                generalize hW0 : w.alloc (.cells #[.int .i64 5, .int .i64 x.a, .int .i64 x.b, .int .i64 x.n, .slice aa x.args.length ca, .slice am x.mat.length cm, .string x.text] 71) = W0 at *
                have k0 : W0.cell? ⟨w.heap.size, 0, none⟩ = some (.int .i64 5) := by rw [← hW0]; simp [go_sem]
                have k1 : W0.cell? ⟨w.heap.size, 1, none⟩ = some (.int .i64 x.a) := by rw [← hW0]; simp [go_sem]
                have k2 : W0.cell? ⟨w.heap.size, 2, none⟩ = some (.int .i64 x.b) := by rw [← hW0]; simp [go_sem]
                have k3 : W0.cell? ⟨w.heap.size, 3, none⟩ = some (.int .i64 x.n) := by rw [← hW0]; simp [go_sem]
                have k4 : W0.cell? ⟨w.heap.size, 4, none⟩ = some (.slice aa x.args.length ca) := by rw [← hW0]; simp [go_sem]
                have k5 : W0.cell? ⟨w.heap.size, 5, none⟩ = some (.slice am x.mat.length cm) := by rw [← hW0]; simp [go_sem]
                have k6 : W0.cell? ⟨w.heap.size, 6, none⟩ = some (.string x.text) := by rw [← hW0]; simp [go_sem]
                clear hW0
                have hbW : b < W0.heap.size := Nat.lt_of_lt_of_le hbl hW.out.size
                have l0 : ∀ n : Wd (Sb W0), n.w.cell? ⟨w.heap.size, 0, none⟩ = _ := fun n => n.cell hW2.out k0
                have l1 : ∀ n : Wd (Sb W0), n.w.cell? ⟨w.heap.size, 1, none⟩ = _ := fun n => n.cell hW2.out k1
                have l2 : ∀ n : Wd (Sb W0), n.w.cell? ⟨w.heap.size, 2, none⟩ = _ := fun n => n.cell hW2.out k2
                have l3 : ∀ n : Wd (Sb W0), n.w.cell? ⟨w.heap.size, 3, none⟩ = _ := fun n => n.cell hW2.out k3
                have l4 : ∀ n : Wd (Sb W0), n.w.cell? ⟨w.heap.size, 4, none⟩ = _ := fun n => n.cell hW2.out k4
                have l5 : ∀ n : Wd (Sb W0), n.w.cell? ⟨w.heap.size, 5, none⟩ = _ := fun n => n.cell hW2.out k5
                have l6 : ∀ n : Wd (Sb W0), n.w.cell? ⟨w.heap.size, 6, none⟩ = _ := fun n => n.cell hW2.out k6
                have lq : ∀ n : Wd (Sb W0), n.w.cell? ⟨b, 6, none⟩ = _ := fun n => n.cell hbW ((hW.out.cell (p := ⟨b, 6, none⟩) hbl).trans cq)
                clear k0 k1 k2 k3 k4 k5 k6
                refine wp_region_quiet_cls (S := Sb W0) (by kernel_rfl) (by kernel_rfl) (Below.refl _ _).drew ?_
                repeat (go_big_quiet_step (first | (go_at_call 34; exact Wd.call _ (HT.out _ (hW.out.trans (Below.mono (Wd.h _) hW.out.size)))) | (go_at_call 27; exact Wd.same _ (HBL.out _ (hW.out.trans (Below.mono (Wd.h _) hW.out.size))))))
                refine wpQuiet_nil ?_
                intro w2 hw2
                have hB2 : Below w.heap.size w w2 := hW.out.trans (Below.mono (Wd.out hw2) hW.out.size)
                clear l0 l1 l2 l3 l4 l5 l6 lq hw2
                go_wp2
                go_ret
                exact ⟨retb HG.out.symm, hB2⟩
              · rw [hp6, Bool.true_and] at HG
                cases hn0 : (x.n == 0)
                · have hn1 : (x.n == 1) = true := by rw [hn0] at hp6; simpa using hp6
                  clear hp6
                  go_enter Try.func32, Try.ntmps32
                  go_wp2_with fail
                  generalize hW0 : w.alloc (.cells #[.int .i64 5, .int .i64 x.a, .int .i64 x.b, .int .i64 x.n, .slice aa x.args.length ca, .slice am x.mat.length cm, .string x.text] 71) = W0 at *
                  have k0 : W0.cell? ⟨w.heap.size, 0, none⟩ = some (.int .i64 5) := by rw [← hW0]; simp [go_sem]
                  have k1 : W0.cell? ⟨w.heap.size, 1, none⟩ = some (.int .i64 x.a) := by rw [← hW0]; simp [go_sem]
                  have k2 : W0.cell? ⟨w.heap.size, 2, none⟩ = some (.int .i64 x.b) := by rw [← hW0]; simp [go_sem]
                  have k3 : W0.cell? ⟨w.heap.size, 3, none⟩ = some (.int .i64 x.n) := by rw [← hW0]; simp [go_sem]
                  have k4 : W0.cell? ⟨w.heap.size, 4, none⟩ = some (.slice aa x.args.length ca) := by rw [← hW0]; simp [go_sem]
                  have k5 : W0.cell? ⟨w.heap.size, 5, none⟩ = some (.slice am x.mat.length cm) := by rw [← hW0]; simp [go_sem]
                  have k6 : W0.cell? ⟨w.heap.size, 6, none⟩ = some (.string x.text) := by rw [← hW0]; simp [go_sem]
                  clear hW0
                  have hbW : b < W0.heap.size := Nat.lt_of_lt_of_le hbl hW.out.size
                  have l0 : ∀ n : Wd (Sb W0), n.w.cell? ⟨w.heap.size, 0, none⟩ = _ := fun n => n.cell hW2.out k0
                  have l1 : ∀ n : Wd (Sb W0), n.w.cell? ⟨w.heap.size, 1, none⟩ = _ := fun n => n.cell hW2.out k1
                  have l2 : ∀ n : Wd (Sb W0), n.w.cell? ⟨w.heap.size, 2, none⟩ = _ := fun n => n.cell hW2.out k2
                  have l3 : ∀ n : Wd (Sb W0), n.w.cell? ⟨w.heap.size, 3, none⟩ = _ := fun n => n.cell hW2.out k3
                  have l4 : ∀ n : Wd (Sb W0), n.w.cell? ⟨w.heap.size, 4, none⟩ = _ := fun n => n.cell hW2.out k4
                  have l5 : ∀ n : Wd (Sb W0), n.w.cell? ⟨w.heap.size, 5, none⟩ = _ := fun n => n.cell hW2.out k5
                  have l6 : ∀ n : Wd (Sb W0), n.w.cell? ⟨w.heap.size, 6, none⟩ = _ := fun n => n.cell hW2.out k6
                  have lq : ∀ n : Wd (Sb W0), n.w.cell? ⟨b, 6, none⟩ = _ := fun n => n.cell hbW ((hW.out.cell (p := ⟨b, 6, none⟩) hbl).trans cq)
                  clear k0 k1 k2 k3 k4 k5 k6
                  refine wp_region_quiet_cls (S := Sb W0) (by kernel_rfl) (by kernel_rfl) (Below.refl _ _).drew ?_
                  repeat (go_big_quiet_step (first | (go_at_call 34; exact Wd.call _ (HT.out _ (hW.out.trans (Below.mono (Wd.h _) hW.out.size)))) | (go_at_call 27; exact Wd.same _ (HBL.out _ (hW.out.trans (Below.mono (Wd.h _) hW.out.size))))))
                  refine wpQuiet_nil ?_
                  intro w2 hw2
                  have hB2 : Below w.heap.size w w2 := hW.out.trans (Below.mono (Wd.out hw2) hW.out.size)
                  clear l0 l1 l2 l3 l4 l5 l6 lq hw2
                  go_wp2
                  go_ret
                  exact ⟨retb HG.out.symm, hB2⟩
                · clear hp6
                  go_enter Try.func32, Try.ntmps32
                  go_wp2_with fail
                  generalize hW0 : w.alloc (.cells #[.int .i64 5, .int .i64 x.a, .int .i64 x.b, .int .i64 x.n, .slice aa x.args.length ca, .slice am x.mat.length cm, .string x.text] 71) = W0 at *
                  have k0 : W0.cell? ⟨w.heap.size, 0, none⟩ = some (.int .i64 5) := by rw [← hW0]; simp [go_sem]
                  have k1 : W0.cell? ⟨w.heap.size, 1, none⟩ = some (.int .i64 x.a) := by rw [← hW0]; simp [go_sem]
                  have k2 : W0.cell? ⟨w.heap.size, 2, none⟩ = some (.int .i64 x.b) := by rw [← hW0]; simp [go_sem]
                  have k3 : W0.cell? ⟨w.heap.size, 3, none⟩ = some (.int .i64 x.n) := by rw [← hW0]; simp [go_sem]
                  have k4 : W0.cell? ⟨w.heap.size, 4, none⟩ = some (.slice aa x.args.length ca) := by rw [← hW0]; simp [go_sem]
                  have k5 : W0.cell? ⟨w.heap.size, 5, none⟩ = some (.slice am x.mat.length cm) := by rw [← hW0]; simp [go_sem]
                  have k6 : W0.cell? ⟨w.heap.size, 6, none⟩ = some (.string x.text) := by rw [← hW0]; simp [go_sem]
                  clear hW0
                  have hbW : b < W0.heap.size := Nat.lt_of_lt_of_le hbl hW.out.size
                  have l0 : ∀ n : Wd (Sb W0), n.w.cell? ⟨w.heap.size, 0, none⟩ = _ := fun n => n.cell hW2.out k0
                  have l1 : ∀ n : Wd (Sb W0), n.w.cell? ⟨w.heap.size, 1, none⟩ = _ := fun n => n.cell hW2.out k1
                  have l2 : ∀ n : Wd (Sb W0), n.w.cell? ⟨w.heap.size, 2, none⟩ = _ := fun n => n.cell hW2.out k2
                  have l3 : ∀ n : Wd (Sb W0), n.w.cell? ⟨w.heap.size, 3, none⟩ = _ := fun n => n.cell hW2.out k3
                  have l4 : ∀ n : Wd (Sb W0), n.w.cell? ⟨w.heap.size, 4, none⟩ = _ := fun n => n.cell hW2.out k4
                  have l5 : ∀ n : Wd (Sb W0), n.w.cell? ⟨w.heap.size, 5, none⟩ = _ := fun n => n.cell hW2.out k5
                  have l6 : ∀ n : Wd (Sb W0), n.w.cell? ⟨w.heap.size, 6, none⟩ = _ := fun n => n.cell hW2.out k6
                  have lq : ∀ n : Wd (Sb W0), n.w.cell? ⟨b, 6, none⟩ = _ := fun n => n.cell hbW ((hW.out.cell (p := ⟨b, 6, none⟩) hbl).trans cq)
                  clear k0 k1 k2 k3 k4 k5 k6
                  refine wp_region_quiet_cls (S := Sb W0) (by kernel_rfl) (by kernel_rfl) (Below.refl _ _).drew ?_
                  repeat (go_big_quiet_step (first | (go_at_call 34; exact Wd.call _ (HT.out _ (hW.out.trans (Below.mono (Wd.h _) hW.out.size)))) | (go_at_call 27; exact Wd.same _ (HBL.out _ (hW.out.trans (Below.mono (Wd.h _) hW.out.size))))))
                  refine wpQuiet_nil ?_
                  intro w2 hw2
                  have hB2 : Below w.heap.size w w2 := hW.out.trans (Below.mono (Wd.out hw2) hW.out.size)
                  clear l0 l1 l2 l3 l4 l5 l6 lq hw2
                  go_wp2
                  go_ret
                  exact ⟨retb HG.out.symm, hB2⟩
end Go.Proofs.Ytblpajbacdbgpaa

/-
  TypesOf is true for every pair of integers: types.Of and spinneretref07.Of return the same type and the same error. No condition.
-/
import Derived.Test.YtioacgjggogflaaRows
import Derived.Test.YtioacgjggogflaaOf
import Derived.WalkKit
import Derived.ProofKit
import Derived.OpenShut
namespace Go.Proofs.Ytioacgjggogflaa.typesOf
open Go.ChangeShapes Go.WideShapes Go.ChangeAt Go.RowKit
set_option linter.unusedVariables false      -- a walk need not use every 'w<i>' (that an integer argument fits its kind)

theorem own : ownKnob Try.prog.godebug = none := by kernel_rfl

set_option maxHeartbeats 1000000 in
theorem ref_any (a0 a1 : Int) (w : World) :
    Calls Try.prog 5 #[.int .i64 a0, .int .i64 a1] w fun e w' => e = .returned (.tuple #[.agg #[.int .i64 (Sb a0 a1), .bool (Ss a0)], .int .i64 (Se a0 a1)]) ∧ Grown w w' := by
  go_enter Try.func5, Try.ntmps5
  go_wp2
  all_goals simp only [beq_iff_eq, beq_eq_false_iff_ne, ne_eq] at *
  all_goals
    refine bodyPost_ret (v := .tuple #[.agg #[.int .i64 (Sb a0 a1), .bool (Ss a0)], .int .i64 (Se a0 a1)]) ?_ rfl ⟨rfl, (Grown.refl _).alloc _ _⟩
    simp [results, Try.results5, go_sem]
    refine ⟨⟨?_, ?_⟩, ?_⟩
  all_goals first
    | (unfold Sb; (repeat' split) <;> first | rfl | omega)
    | (unfold Se; (repeat' split) <;> first | rfl | omega)
    | exact decide_eq_true (show a0 = 4 ∨ a0 = 5 by omega)
    | exact decide_eq_false (show ¬(a0 = 4 ∨ a0 = 5) by omega)
theorem gtrans {A B C : World} (h : Grown A B) (k : Grown B C) : Grown A C :=
  ⟨World.keptBut_trans h.1 (World.keptBut_mono (fun _ f => f) k.1), fun a => (k.2.1 a).trans (h.2.1 a), Nat.le_trans h.2.2 k.2.2⟩
theorem gcell {W W1 : World} (h : Grown W W1) (b o : Nat) (hb : b < W.heap.size) : W1.cell? ⟨b, o, none⟩ = W.cell? ⟨b, o, none⟩ := h.1.cell hb (fun f => f)
theorem walk (a0 : Int) (a1 : Int) (w0 : (Lit.int .i64 a0).wf = true) (_w1 : (Lit.int .i64 a1).wf = true) (w : World) :
    Calls Try.prog 3 #[.int .i64 a0, .int .i64 a1] w fun e w' => e = .returned (.bool true) ∧ Grown w w' := by
  go_enter Try.func3, Try.ntmps3
  go_wp2_with fail
  refine (of_any a0 a1 _ w0).mono ?_
  rintro e w1 ⟨rfl, h1⟩
  go_wp2_with fail
  refine (ref_any a0 a1 _).mono ?_
  rintro e w2 ⟨rfl, h2⟩
  have g2 := gcell h2
  have z1 : w1.heap.size < w2.heap.size := by have := h2.2.2; simp at this; omega
  generalize Sb a0 a1 = b at *
  generalize Ss a0 = s at *
  generalize Se a0 a1 = er at *
  go_wp2
  go_ret
  exact ⟨rfl, (gtrans (h1.alloc _ _) h2).alloc _ _⟩
/-! ### THE ROW's STEP: WRITTEN OUT: LEAVE IT -/
set_option maxRecDepth 100000 in
theorem lifted (os : Os) (started : os.Started) (H : Type) (enc : TypeId × Value → H) :
    ReturnsInHanded {} Try.checked os 3 .any (Rows.typesOfSpec.pre6 enc Try.prog Try.f3 Rows.typesOfRow.domain false) (Rows.typesOfSpec.post enc Try.prog Try.f3 false true false false) := by
  refine returnsInHanded_of_change (C := Try.checked) own started (by kernel_rfl) Try.func3
    (ChangeSpec.witness6 (enc := enc) (C := Try.checked) false ⟨#[], #[.int .i64 0, .int .i64 0], []⟩ 8 (by kernel_rfl) (by kernel_rfl) (by kernel_rfl) (by kernel_rfl)) ?_
  intro W base args ds gs before hval0 hW hcnd _
  have hval : ∀ (j : Nat) t v, Try.f3.params[j]? = some t → args[j]? = some v → Value.okWide Try.prog W .any base t v := hval0
  have hW' := hW
  obtain ⟨p, q, hA0, hV, rfl, hfz, hnd⟩ := hW
  have hA : DataW.TrodAll enc Try.prog W 0 (fun _ => true) true Try.f3.params.toList args.toList ds p := hA0
  rw [Try.params3] at hA hval
  obtain ⟨v0, vs0, d0, ds0, p0, q0, hargs, rfl, rfl, h0, r0⟩ := trodAll_cons hA
  obtain ⟨v1, vs1, d1, ds1, p1, q1, rfl, rfl, rfl, h1, r1⟩ := trodAll_cons r0
  obtain ⟨rfl, rfl, rfl⟩ := trodAll_nil r1
  obtain rfl : args = #[v0, v1] := by cases args; simp_all
  obtain ⟨rfl, rfl⟩ := trodVars_none hV
  obtain ⟨a0, rfl, rfl, rfl, w0⟩ := open_int Try.underlying3 (hval 0 3 v0 rfl rfl) h0
  obtain ⟨a1, rfl, rfl, rfl, w1⟩ := open_int Try.underlying3 (hval 1 3 v1 rfl rfl) h1
  clear hA0 hval0
  simp only [List.append_nil] at hW'
  refine (walk a0 a1 w0 w1 W).mono fun e W' ⟨he, hg⟩ => ?_
  subst he
  exact ⟨_, rfl, post_of_same (pa := []) (pv := []) hW' (fun _ _ _ => (trodAll_cons_mk (shut_bool Try.underlying4 _) trodAll_mk0)) (fun sp _ => (trodAll_cons_mk (shut_int Try.underlying3 w0) (trodAll_cons_mk (shut_int Try.underlying3 w1) trodAll_mk0))) (fun _ _ => rfl) rfl
    (hg.frame _) hg.2.1 (ok_one (by kernel_rfl) rfl (okWide_bool_mk Try.underlying4 _))⟩

theorem over : Rows.typesOfRow.holds Try.pinned (OpenSpec.ofChange Rows.typesOfSpec) :=
  OpenClaim.holds_of_wide 3 Try.f3 rfl rfl rfl rfl rfl rfl rfl ⟨rfl, rfl, rfl, rfl, rfl⟩ rfl rfl rfl rfl rfl (by kernel_rfl) Try.func3 (by kernel_rfl)
    (of_decide_eq_true (by kernel_rfl)) (by unfold Func.isWrapper; first | (rw [if_pos (by decide +kernel)]; kernel_rfl) | (rw [if_neg (by decide +kernel)]; exact ⟨rfl, rfl⟩))
    (fun os started H enc _ => lifted os started H enc)

/-- ████ THE STATEMENT ████ -/
theorem proved : Rows.TypesOfSaid :=
  over
#print axioms proved
end Go.Proofs.Ytioacgjggogflaa.typesOf

/- Part of the proof of CompileForCardSaid. -/
import Derived.Test.YthhgndcpeeifeaaGreatDoorE15
import Derived.Test.YthhgndcpeeifeaaGreatDoorRows
import Derived.WalkKit
import Derived.Recover
import Derived.Defers
set_option linter.unusedVariables false
set_option linter.unusedSimpArgs false
set_option linter.unusedSectionVars false
set_option linter.constructorNameAsVariable false
namespace Go.Ev
open Go Go.RowKit Go.Instr Go.Proofs
theorem idle30 (p q r : Value) (w : World) :
    CallsD Tryz.prog 30 #[p, q, r] .returning w fun e u' w' => e = .returned (.tuple #[]) ∧ u' = .returning ∧ w' = w := by
  refine callsD_of_wpS Tryz.func30 rfl fun c₀ cs hu => ?_
  apply wpS_seq
  apply wpS_region
  simp [wpOpsS, go_sem, recoverD, hu, Tryz.ntmps30, Exit.thenS]
  apply wpS_seq
  apply wpS_region
  simp [wpOpsS, go_sem, recoverD, hu, Exit.thenS]
  refine wpS_cond (t := false) (by simp [Act.eval, Array.replicate]) ?_
  simp only [Bool.false_eq_true, if_false]
  refine wpS_of_wp (wp_skip ?_)
  cases c₀
  simp_all [bodyPostS, results, Tryz.results30]
theorem idle37 (p q r : Value) (w : World) :
    CallsD Tryz.prog 37 #[p, q, r] .returning w fun e u' w' => e = .returned (.tuple #[]) ∧ u' = .returning ∧ w' = w := by
  refine callsD_of_wpS Tryz.func37 rfl fun c₀ cs hu => ?_
  apply wpS_seq
  apply wpS_region
  simp [wpOpsS, go_sem, recoverD, hu, Tryz.ntmps37, Exit.thenS]
  apply wpS_seq
  apply wpS_region
  simp [wpOpsS, go_sem, recoverD, hu, Exit.thenS]
  refine wpS_cond (t := false) (by simp [Act.eval, Array.replicate]) ?_
  simp only [Bool.false_eq_true, if_false]
  refine wpS_of_wp (wp_skip ?_)
  cases c₀
  simp_all [bodyPostS, results, Tryz.results37]
theorem idle71 (p q r : Value) (w : World) :
    CallsD Tryz.prog 71 #[p, q, r] .returning w fun e u' w' => e = .returned (.tuple #[]) ∧ u' = .returning ∧ w' = w := by
  refine callsD_of_wpS Tryz.func71 rfl fun c₀ cs hu => ?_
  apply wpS_seq
  apply wpS_region
  simp [wpOpsS, go_sem, recoverD, hu, Tryz.ntmps71, Exit.thenS]
  apply wpS_seq
  apply wpS_region
  simp [wpOpsS, go_sem, recoverD, hu, Exit.thenS]
  refine wpS_cond (t := false) (by simp [Act.eval, Array.replicate]) ?_
  simp only [Bool.false_eq_true, if_false]
  refine wpS_of_wp (wp_skip ?_)
  cases c₀
  simp_all [bodyPostS, results, Tryz.results71]
theorem idle113 (p q r : Value) (w : World) :
    CallsD Tryz.prog 113 #[p, q, r] .returning w fun e u' w' => e = .returned (.tuple #[]) ∧ u' = .returning ∧ w' = w := by
  refine callsD_of_wpS Tryz.func113 rfl fun c₀ cs hu => ?_
  apply wpS_seq
  apply wpS_region
  simp [wpOpsS, go_sem, recoverD, hu, Tryz.ntmps113, Exit.thenS]
  apply wpS_seq
  apply wpS_region
  simp [wpOpsS, go_sem, recoverD, hu, Exit.thenS]
  refine wpS_cond (t := false) (by simp [Act.eval, Array.replicate]) ?_
  simp only [Bool.false_eq_true, if_false]
  refine wpS_of_wp (wp_skip ?_)
  cases c₀
  simp_all [bodyPostS, results, Tryz.results113]
theorem idle210 (p q : Value) (w : World) :
    CallsD Tryz.prog 210 #[p, q] .returning w fun e u' w' => e = .returned (.tuple #[]) ∧ u' = .returning ∧ w' = w := by
  refine callsD_of_wpS Tryz.func210 rfl fun c₀ cs hu => ?_
  apply wpS_seq
  apply wpS_region
  simp [wpOpsS, go_sem, recoverD, hu, Tryz.ntmps210, Exit.thenS]
  apply wpS_seq
  apply wpS_region
  simp [wpOpsS, go_sem, recoverD, hu, Exit.thenS]
  refine wpS_cond (t := false) (by simp [Act.eval, Array.replicate]) ?_
  simp only [Bool.false_eq_true, if_false]
  refine wpS_of_wp (wp_skip ?_)
  cases c₀
  simp_all [bodyPostS, results, Tryz.results210]
noncomputable def idl (f n : Nat) : Bool := cif (Nat.beq f 210) (Nat.beq n 2) (cif (Nat.beq f 30) (Nat.beq n 3) (cif (Nat.beq f 37) (Nat.beq n 3) (cif (Nat.beq f 71) (Nat.beq n 3) (cif (Nat.beq f 113) (Nat.beq n 3) false))))
theorem bodyNe {P : Program} {g : FuncId} {fn : Func} (h : P.funcs[g]? = some fn) (hb : fn.body.isSome = true) : (P.funcs[g]?).bind (·.body) ≠ none := by
  rw [h]
  intro q
  have q : fn.body = none := q
  rw [q] at hb; cases hb
theorem idl_ok : IdleOk Tryz.prog idl := by
  have a3 : ∀ args : Array Value, args.size = 3 → ∃ p q r, args = #[p, q, r] := fun args h => by
    obtain ⟨l⟩ := args
    match l, h with
    | [p, q, r], _ => exact ⟨p, q, r, rfl⟩
  have a2 : ∀ args : Array Value, args.size = 2 → ∃ p q, args = #[p, q] := fun args h => by
    obtain ⟨l⟩ := args
    match l, h with
    | [p, q], _ => exact ⟨p, q, rfl⟩
  have fin : ∀ {g args w}, (CallsD Tryz.prog g args .returning w fun e u' w' => e = .returned (.tuple #[]) ∧ u' = .returning ∧ w' = w) → CallsD Tryz.prog g args .returning w fun e u w' => (∃ v, e = .returned v) ∧ u = .returning ∧ w'.heap = w.heap ∧ ∀ B, Below B w w' := fun h =>
    h.mono fun e u w' ⟨h1, h2, h3⟩ => ⟨⟨_, h1⟩, h2, by rw [h3], fun B => by rw [h3]; exact .refl B _⟩
  intro g n h
  unfold idl at h
  simp only [cif_eq, Nat.beq_eq] at h
  by_cases q : g = 210
  · subst q
    have hn : n = 2 := by simpa using h
    subst hn
    refine ⟨bodyNe Tryz.func210 (by kernel_rfl), fun args w ha => ?_⟩
    obtain ⟨p, q, rfl⟩ := a2 args ha
    exact fin (idle210 p q w)
  rw [if_neg q] at h
  by_cases q1 : g = 30
  · subst q1
    have hn : n = 3 := by simpa using h
    subst hn
    refine ⟨bodyNe Tryz.func30 (by kernel_rfl), fun args w ha => ?_⟩
    obtain ⟨p, q, r, rfl⟩ := a3 args ha
    exact fin (idle30 p q r w)
  rw [if_neg q1] at h
  by_cases q2 : g = 37
  · subst q2
    have hn : n = 3 := by simpa using h
    subst hn
    refine ⟨bodyNe Tryz.func37 (by kernel_rfl), fun args w ha => ?_⟩
    obtain ⟨p, q, r, rfl⟩ := a3 args ha
    exact fin (idle37 p q r w)
  rw [if_neg q2] at h
  by_cases q3 : g = 71
  · subst q3
    have hn : n = 3 := by simpa using h
    subst hn
    refine ⟨bodyNe Tryz.func71 (by kernel_rfl), fun args w ha => ?_⟩
    obtain ⟨p, q, r, rfl⟩ := a3 args ha
    exact fin (idle71 p q r w)
  rw [if_neg q3] at h
  by_cases q4 : g = 113
  · subst q4
    have hn : n = 3 := by simpa using h
    subst hn
    refine ⟨bodyNe Tryz.func113 (by kernel_rfl), fun args w ha => ?_⟩
    obtain ⟨p, q, r, rfl⟩ := a3 args ha
    exact fin (idle113 p q r w)
  rw [if_neg q4] at h
  cases h
theorem named_all : (Tryz.prog.funcs.all fun fn => !(fn.body.isSome && fn.name == "runtime.NumGoroutine")) = true := by kernel_rfl
theorem named : Named Tryz.prog := by
  intro f fn h hb
  have h1 := Array.all_eq_true.1 named_all f (Array.getElem?_eq_some_iff.1 h).1
  rw [(Array.getElem?_eq_some_iff.1 h).2, hb] at h1
  simpa using h1
end Go.Ev

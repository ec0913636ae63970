/-
  The Go function types.Of, for every pair of integers: it returns the type and the error that Sb, Ss, Se tell. Condition: the first argument fits its kind.
-/
import Derived.Test.YtioacgjggogflaaRows
import Derived.WalkKit
import Derived.ProofKit
import Derived.OpenShut
import Derived.Maps.Own
import Derived.Lib.Hide
namespace Go.Proofs.Ytioacgjggogflaa.typesOf
open Go.ChangeShapes Go.WideShapes Go.ChangeAt Go.RowKit

theorem under28 : Try.prog.underlying 28 = some (.map 3 23) := by kernel_rfl
theorem law : Go.Maps.Keyed Try.prog 3 := Go.Maps.int_keyed Try.underlying3
theorem zero23 (w : World) : (zeroValue 23).run Try.prog w = .ok (.agg #[.int .i64 0, .bool false]) w := by kernel_rfl

def ent (n : Int) (bits : Int) (sg : Bool) (c : Nat) : MapEntry := ⟨.int .i64 n, .agg #[.int .i64 bits, .bool sg], c⟩
def tb : Nat → Array MapEntry
  | 0 => #[]
  | 1 => #[ent 1 1 false 0]
  | 2 => #[ent 1 1 false 0, ent 2 1 false 1]
  | 3 => #[ent 1 1 false 0, ent 2 1 false 1, ent 3 8 false 2]
  | 4 => #[ent 1 1 false 0, ent 2 1 false 1, ent 3 8 false 2, ent 4 16 true 3]
  | 5 => #[ent 1 1 false 0, ent 2 1 false 1, ent 3 8 false 2, ent 4 16 true 3, ent 5 32 true 4]
  | 6 => #[ent 1 1 false 0, ent 2 1 false 1, ent 3 8 false 2, ent 4 16 true 3, ent 5 32 true 4, ent 7 8 false 5]
  | 7 => #[ent 1 1 false 0, ent 2 1 false 1, ent 3 8 false 2, ent 4 16 true 3, ent 5 32 true 4, ent 7 8 false 5, ent 8 8 false 6]
  | _ => #[ent 1 1 false 0, ent 2 1 false 1, ent 3 8 false 2, ent 4 16 true 3, ent 5 32 true 4, ent 7 8 false 5, ent 8 8 false 6, ent 9 8 false 7]
def ob (k : Nat) : Obj := .map (tb k) k

theorem setPush (h : Array Obj) (o p : Obj) : (h.push o).setIfInBounds h.size p = h.push p := by
  cases h; simp
theorem setLast (W : World) (o p : Obj) : ({ heap := (W.alloc o).heap.setIfInBounds W.heap.size p, tape := W.tape, drawn := W.drawn, os := (W.alloc o).os, output := (W.alloc o).output } : World) = W.alloc p := by
  unfold World.alloc
  simp only [setPush]
theorem ins (W : World) (s : Nat) (hs : s = W.heap.size) (k : Nat) (n bits : Int) (sg : Bool) (hw : (Lit.int .i64 n).wf = true)
   (hf : Instr.findNow (.int .i64) (.int .i64 n) (tb k).toList 0 = some none) (hn : (tb k).push (ent n bits sg k) = tb (k + 1)) :
   (Instr.mapUpdate 28 (.map (some s)) (.int .i64 n) (.agg #[.int .i64 bits, .bool sg])).run Try.prog (W.alloc (ob k)) = .ok () (W.alloc (ob (k + 1))) := by
  subst hs
  have hb : (W.alloc (ob k)).heap[W.heap.size]? = some (.map (tb k) k) := (MapKept.heap_alloc W _).1
  have hk : keyOf Try.prog 3 (.int .i64 n) = some (.int .i64 n) := Go.Maps.keyOf_int_mk Try.underlying3 hw
  have h1 : (Instr.findKey 3 (.int .i64 n) (tb k).toList).run Try.prog (W.alloc (ob k)) = .ok none (W.alloc (ob k)) := by
    simp [Instr.findKey, run_underlying Try.underlying3, hf]
  simp [Instr.mapUpdate, run_underlying under28, MapKept.run_getObj_map hb, law.check _ false hk, h1, MapKept.run_setObj_map _ hb, Result.andThen]
  rw [show ({ key := Value.int IntKind.i64 n, val := Value.agg #[Value.int IntKind.i64 bits, Value.bool sg], born := k } : MapEntry) = ent n bits sg k from rfl, hn]
  exact setLast W _ _
theorem look (W : World) (s : Nat) (hs : s = W.heap.size) (n : Int) (v : Value) (ok : Bool) (i : Nat) (hw : (Lit.int .i64 n).wf = true)
   (hf : Instr.findNow (.int .i64) (.int .i64 n) (tb 8).toList 0 = some (if ok then some (i, v) else none)) (hv : ok = false → v = .agg #[.int .i64 0, .bool false]) :
   (Instr.lookup 28 (.map (some s)) (.int .i64 n) true).run Try.prog (W.alloc (ob 8)) = .ok (.tuple #[v, .bool ok]) (W.alloc (ob 8)) := by
  subst hs
  have hb : (W.alloc (ob 8)).heap[W.heap.size]? = some (.map (tb 8) 8) := (MapKept.heap_alloc W _).1
  have hk : keyOf Try.prog 3 (.int .i64 n) = some (.int .i64 n) := Go.Maps.keyOf_int_mk Try.underlying3 hw
  have h1 : (Instr.findKey 3 (.int .i64 n) (tb 8).toList).run Try.prog (W.alloc (ob 8)) = .ok (if ok then some (i, v) else none) (W.alloc (ob 8)) := by
    simp [Instr.findKey, run_underlying Try.underlying3, hf]
  have h2 := law.check (W.alloc (ob 8)) (tb 8).isEmpty hk
  cases ok
  · simp [Instr.lookup, run_underlying under28, MapKept.run_getObj_map hb, h2, h1, Result.andThen, hv]
  · simp [Instr.lookup, run_underlying under28, MapKept.run_getObj_map hb, h2, h1, Result.andThen]


theorem grown_map {W w' : World} (h : Grown W w') (k : Nat) : Grown W (w'.alloc (ob k)) := by
  refine ⟨World.keptBut_trans h.1 (World.keptBut_alloc _ _ _), fun a => Eq.trans ?_ (h.2.1 a), Nat.le_trans h.2.2 (by show w'.heap.size ≤ (w'.heap.push _).size; simp)⟩
  by_cases h : a.block = w'.heap.size
  · have e1 : (w'.alloc (ob k)).heap[a.block]? = some (.map (tb k) k) := by rw [h]; exact (MapKept.heap_alloc w' _).1
    have e2 : w'.heap[a.block]? = none := by rw [h]; simp
    simp [World.frozen?, e1, e2]
  · exact World.frozen?_alloc_old _ _ _ h
def Sb (ty bits : Int) : Int := if ty = 1 ∨ ty = 2 then 1 else if ty = 3 ∨ ty = 7 ∨ ty = 8 ∨ ty = 9 then 8 else if ty = 4 then 16 else if ty = 5 then 32 else if ty = 6 ∧ 1 ≤ bits ∧ bits ≤ 32 then bits else 0
def Ss (ty : Int) : Bool := decide (ty = 4 ∨ ty = 5)
def Se (ty bits : Int) : Int := if (ty = 6 ∧ 1 ≤ bits ∧ bits ≤ 32) ∨ (1 ≤ ty ∧ ty ≤ 5) ∨ (7 ≤ ty ∧ ty ≤ 9) then 0 else 16
theorem ret_of {b b' e e' : Int} {s s' : Bool} (h1 : b = b') (h2 : s = s') (h3 : e = e') : Ending.returned (.tuple #[.agg #[.int .i64 b, .bool s], .int .i64 e]) = Ending.returned (.tuple #[.agg #[.int .i64 b', .bool s'], .int .i64 e']) := by
  rw [h1, h2, h3]
set_option maxHeartbeats 1000000 in
theorem of_look (a0 : Int) (a1 : Int) (w : World) (hw0 : (Lit.int .i64 a0).wf = true) (bits : Int) (sg ok : Bool) (i : Nat) (h6 : (a0 == 6) = false ∨ (a0 = 6 ∧ a1 < 1) ∨ (a0 = 6 ∧ 32 < a1))
   (hf : Instr.findNow (.int .i64) (.int .i64 a0) (tb 8).toList 0 = some (if ok then some (i, .agg #[.int .i64 bits, .bool sg]) else none)) (hv : ok = false → (Value.agg #[.int .i64 bits, .bool sg]) = .agg #[.int .i64 0, .bool false])
   (e1 : bits = Sb a0 a1) (e2 : sg = Ss a0) (e3 : (if ok then (0 : Int) else 16) = Se a0 a1) :
    Calls Try.prog 4 #[.int .i64 a0, .int .i64 a1] w fun e w' => e = .returned (.tuple #[.agg #[.int .i64 (Sb a0 a1), .bool (Ss a0)], .int .i64 (Se a0 a1)]) ∧ Grown w w' := by
  have hmm : ∀ W : World, (Instr.makeMap 28 none).run Try.prog W = .ok (.map (some W.heap.size)) (W.alloc (ob 0)) := fun _ => rfl
  have i0 := ins (w.alloc (.cells #[.int .i64 0, .bool false] 23)) (w.heap.size + 1) (by simp) 0 1 1 false rfl rfl rfl
  have i1 := ins (w.alloc (.cells #[.int .i64 0, .bool false] 23)) (w.heap.size + 1) (by simp) 1 2 1 false rfl rfl rfl
  have i2 := ins (w.alloc (.cells #[.int .i64 0, .bool false] 23)) (w.heap.size + 1) (by simp) 2 3 8 false rfl rfl rfl
  have i3 := ins (w.alloc (.cells #[.int .i64 0, .bool false] 23)) (w.heap.size + 1) (by simp) 3 4 16 true rfl rfl rfl
  have i4 := ins (w.alloc (.cells #[.int .i64 0, .bool false] 23)) (w.heap.size + 1) (by simp) 4 5 32 true rfl rfl rfl
  have i5 := ins (w.alloc (.cells #[.int .i64 0, .bool false] 23)) (w.heap.size + 1) (by simp) 5 7 8 false rfl rfl rfl
  have i6 := ins (w.alloc (.cells #[.int .i64 0, .bool false] 23)) (w.heap.size + 1) (by simp) 6 8 8 false rfl rfl rfl
  have i7 := ins (w.alloc (.cells #[.int .i64 0, .bool false] 23)) (w.heap.size + 1) (by simp) 7 9 8 false rfl rfl rfl
  have hl := look (w.alloc (.cells #[.int .i64 0, .bool false] 23)) (w.heap.size + 1) (by simp) a0 (.agg #[.int .i64 bits, .bool sg]) ok i hw0 hf hv
  have E1 := Lib.hid e1; clear e1
  have E2 := Lib.hid e2; clear e2
  have E3 := Lib.hid e3; clear e3
  have HV := Lib.hid hv; clear hv hf
  cases ok
  · obtain ⟨⟩ := HV.out rfl
    rcases h6 with h6 | ⟨rfl, h6⟩ | ⟨rfl, h6⟩
    all_goals
      go_enter Try.func4, Try.ntmps4
      go_wp2
      refine bodyPost_ret (v := .tuple #[.agg #[.int .i64 0, .bool false], .int .i64 16]) (by simp [results, Try.results4, go_sem]) rfl ⟨ret_of E1.out E2.out E3.out, ?_⟩
      exact (grown_map ((Grown.refl _).alloc _ _) _).alloc _ _
  · rcases h6 with h6 | ⟨rfl, h6⟩ | ⟨rfl, h6⟩
    all_goals
      go_enter Try.func4, Try.ntmps4
      go_wp2
      refine bodyPost_ret (v := .tuple #[.agg #[.int .i64 bits, .bool sg], .int .i64 0]) (by simp [results, Try.results4, go_sem]) rfl ⟨ret_of E1.out E2.out E3.out, ?_⟩
      exact (grown_map ((Grown.refl _).alloc _ _) _).alloc _ _
theorem of_six (a1 : Int) (w : World) (h1 : 1 ≤ a1) (h2 : a1 ≤ 32) :
    Calls Try.prog 4 #[.int .i64 6, .int .i64 a1] w fun e w' => e = .returned (.tuple #[.agg #[.int .i64 (Sb 6 a1), .bool (Ss 6)], .int .i64 (Se 6 a1)]) ∧ Grown w w' := by
  have hmm : ∀ W : World, (Instr.makeMap 28 none).run Try.prog W = .ok (.map (some W.heap.size)) (W.alloc (ob 0)) := fun _ => rfl
  have i0 := ins (w.alloc (.cells #[.int .i64 0, .bool false] 23)) (w.heap.size + 1) (by simp) 0 1 1 false rfl rfl rfl
  have i1 := ins (w.alloc (.cells #[.int .i64 0, .bool false] 23)) (w.heap.size + 1) (by simp) 1 2 1 false rfl rfl rfl
  have i2 := ins (w.alloc (.cells #[.int .i64 0, .bool false] 23)) (w.heap.size + 1) (by simp) 2 3 8 false rfl rfl rfl
  have i3 := ins (w.alloc (.cells #[.int .i64 0, .bool false] 23)) (w.heap.size + 1) (by simp) 3 4 16 true rfl rfl rfl
  have i4 := ins (w.alloc (.cells #[.int .i64 0, .bool false] 23)) (w.heap.size + 1) (by simp) 4 5 32 true rfl rfl rfl
  have i5 := ins (w.alloc (.cells #[.int .i64 0, .bool false] 23)) (w.heap.size + 1) (by simp) 5 7 8 false rfl rfl rfl
  have i6 := ins (w.alloc (.cells #[.int .i64 0, .bool false] 23)) (w.heap.size + 1) (by simp) 6 8 8 false rfl rfl rfl
  have i7 := ins (w.alloc (.cells #[.int .i64 0, .bool false] 23)) (w.heap.size + 1) (by simp) 7 9 8 false rfl rfl rfl
  go_enter Try.func4, Try.ntmps4
  go_wp2
  refine bodyPost_ret (v := .tuple #[.agg #[.int .i64 a1, .bool false], .int .i64 0]) (by simp [results, Try.results4, go_sem]) rfl ⟨ret_of (by simp [Sb]; omega) rfl (by simp [Se]; omega), ?_⟩
  exact grown_map ((Grown.refl _).alloc _ _) _
set_option linter.unusedSimpArgs false in
theorem of_any (a0 a1 : Int) (w : World) (hw0 : (Lit.int .i64 a0).wf = true) :
    Calls Try.prog 4 #[.int .i64 a0, .int .i64 a1] w fun e w' => e = .returned (.tuple #[.agg #[.int .i64 (Sb a0 a1), .bool (Ss a0)], .int .i64 (Se a0 a1)]) ∧ Grown w w' := by
  by_cases c6 : a0 = 6
  · subst c6
    by_cases c1 : a1 < 1
    · exact of_look 6 a1 w hw0 0 false false 0 (.inr (.inl ⟨rfl, c1⟩)) rfl (fun _ => rfl) (by simp [Sb]; omega) rfl (by simp [Se]; omega)
    by_cases c2 : 32 < a1
    · exact of_look 6 a1 w hw0 0 false false 0 (.inr (.inr ⟨rfl, c2⟩)) rfl (fun _ => rfl) (by simp [Sb]; omega) rfl (by simp [Se]; omega)
    exact of_six a1 w (by omega) (by omega)
  by_cases c1' : a0 = 1
  · subst c1'; exact of_look 1 a1 w hw0 1 false true 0 (.inl rfl) rfl (fun h => nomatch h) rfl rfl rfl
  by_cases c2' : a0 = 2
  · subst c2'; exact of_look 2 a1 w hw0 1 false true 1 (.inl rfl) rfl (fun h => nomatch h) rfl rfl rfl
  by_cases c3' : a0 = 3
  · subst c3'; exact of_look 3 a1 w hw0 8 false true 2 (.inl rfl) rfl (fun h => nomatch h) rfl rfl rfl
  by_cases c4' : a0 = 4
  · subst c4'; exact of_look 4 a1 w hw0 16 true true 3 (.inl rfl) rfl (fun h => nomatch h) rfl rfl rfl
  by_cases c5' : a0 = 5
  · subst c5'; exact of_look 5 a1 w hw0 32 true true 4 (.inl rfl) rfl (fun h => nomatch h) rfl rfl rfl
  by_cases c7' : a0 = 7
  · subst c7'; exact of_look 7 a1 w hw0 8 false true 5 (.inl rfl) rfl (fun h => nomatch h) rfl rfl rfl
  by_cases c8' : a0 = 8
  · subst c8'; exact of_look 8 a1 w hw0 8 false true 6 (.inl rfl) rfl (fun h => nomatch h) rfl rfl rfl
  by_cases c9' : a0 = 9
  · subst c9'; exact of_look 9 a1 w hw0 8 false true 7 (.inl rfl) rfl (fun h => nomatch h) rfl rfl rfl
  have hf : Instr.findNow (.int .i64) (.int .i64 a0) (tb 8).toList 0 = some none := by
    simp [tb, ent, Instr.findNow, Instr.sameNow, beq_false_of_ne, *]
  have q1 : Sb a0 a1 = 0 := by unfold Sb; rw [if_neg (by omega), if_neg (by omega), if_neg (by omega), if_neg (by omega), if_neg (by omega)]
  have q2 : Ss a0 = false := decide_eq_false (by omega)
  have q3 : Se a0 a1 = 16 := by unfold Se; rw [if_neg (by omega)]
  exact of_look a0 a1 w hw0 0 false false 0 (.inl (by simpa using c6)) hf (fun _ => rfl) q1.symm q2.symm q3.symm
end Go.Proofs.Ytioacgjggogflaa.typesOf

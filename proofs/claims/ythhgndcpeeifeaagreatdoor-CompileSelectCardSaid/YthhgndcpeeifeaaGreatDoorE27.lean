/- Part of the proof of CompileForCardSaid. -/
import Derived.Test.YthhgndcpeeifeaaGreatDoorE26
set_option linter.unusedVariables false
set_option linter.unusedSimpArgs false
set_option linter.unusedSectionVars false
set_option linter.constructorNameAsVariable false
namespace Go.Proofs.Lx6
open Go.ChangeShapes Go.WideShapes Go.ChangeAt Go.RowKit Go.Shelf
attribute [local go_sem] Oper.semAt_some
def regOf (n : Nat) : Code → Option Code
  | .region id ops d => if id = n then some (.region id ops d) else none
  | .cond _ x y => (regOf n x).orElse fun _ => regOf n y
  | .seq x y => (regOf n x).orElse fun _ => regOf n y
  | .block _ x => regOf n x
  | .loop x => regOf n x
  | .scope x => regOf n x
  | .rangeFunc _ _ _ x => regOf n x
  | _ => none
theorem app_step {F : Fence} {n : Nat} {P : Program} {ops : Array Oper} {o : Oper} {a : Act} {w w' : World} {K : Act → World → Prop} {Q : Exit → Act → World → Prop} {E : Prop} {s x : Operand} {t : TypeId} {v u v' : Value} (hg : o.guard = none)
    (hop : o.op = .call { callee := .builtin .append, args := #[s, x], argTypes := #[t, t] }) (hs : a.eval s = v) (hx : a.eval x = u) (hrun : (Builtin.append_ #[t, t] o.type #[v, u]).run P w = .ok v' w') (hK : K (a.put o.dst v') w') :
    if Region.wanted o (yielded ops a.tmps) = true then Oper.wpIn F n P o a w K Q else E := by
  rw [if_pos (by simp [Region.wanted, hg])]
  unfold Oper.wpIn
  refine ⟨?_, ?_⟩
  · simp [Oper.about, hop, resolve, Target.leads, Sem.run_pure]
  · rw [Oper.semAt_plain F _ _ (by rw [hop]; intro c hc'; cases hc')]
    simp [execOp, hop, resolve, invoke, builtin, hs, hx, hrun, Result.andThen]
    exact hK
set_option maxHeartbeats 4000000 in
set_option maxRecDepth 100000 in
theorem reg10 {C : Code} (hC : regOf 10 (Tryz.f136.body.getD .skip) = some C) {l n : Nat} {K : Act → World → Prop} {Q : Exit → Act → World → Prop} {s0 s1 s2 s3 s5 s6 s7 s8 s10 s11 s12 s13 s14 s15 s16 s17 s18 s19 s20 s21 s22 s23 s24 s25 s26 s27 s28 s29 s30 s31 s32 s33 s34 s35 s36 s37 s38 s39 s40 s41 s42 s43 s44 s45 s46 s47 : Value} {b g m kcap c cap c' cap' : Nat} {ao ao' : Option Addr} {w w5 : World}
    (hb : w.cell? ⟨b, 0, none⟩ = some (.slice ao c cap)) (hrun : (Builtin.append_ #[76, 76] 76 #[(.slice ao c cap), .slice (some ⟨g, 0, none⟩) m kcap]).run Tryz.prog w.drew = .ok (.slice ao' c' cap') w5) (f2 : w5.cell? ⟨b, 0, none⟩ = some (.slice ao c cap)) (f3 : w5.frozen? ⟨b, 0, none⟩ = false) (hm : m + 1 ≤ kcap) (hm2 : m ≤ 100000)
    (hK : K ⟨(s0 :: s1 :: s2 :: s3 :: (.pointer (some ⟨b, 0, none⟩)) :: s5 :: s6 :: s7 :: s8 :: (.slice (some ⟨g, 0, none⟩) (m + 1) kcap) :: s10 :: s11 :: s12 :: s13 :: s14 :: s15 :: s16 :: s17 :: s18 :: s19 :: s20 :: s21 :: s22 :: s23 :: s24 :: s25 :: s26 :: s27 :: s28 :: s29 :: s30 :: s31 :: s32 :: s33 :: (.slice ao c cap) :: (.slice (some ⟨g, 0, none⟩) (m + 1) kcap) :: (.slice (some ⟨g, 0, none⟩) (m + 1) kcap) :: (.int .i64 (m + 1 : Nat)) :: (.int .i64 m) :: (.slice (some ⟨g, 0, none⟩) m kcap) :: (.slice ao' c' cap') :: s41 :: s42 :: s43 :: s44 :: s45 :: s46 :: s47 :: []).toArray, []⟩ (w5.setCell ⟨b, 0, none⟩ (.slice ao' c' cap'))) :
    C.wpIn (Fence.wide.inRound l) n Tryz.prog (Exit.then K Q) ⟨(s0 :: s1 :: s2 :: s3 :: (.pointer (some ⟨b, 0, none⟩)) :: s5 :: s6 :: s7 :: s8 :: (.slice (some ⟨g, 0, none⟩) (m + 1) kcap) :: s10 :: s11 :: s12 :: s13 :: s14 :: s15 :: s16 :: s17 :: s18 :: s19 :: s20 :: s21 :: s22 :: s23 :: s24 :: s25 :: s26 :: s27 :: s28 :: s29 :: s30 :: s31 :: s32 :: s33 :: s34 :: s35 :: s36 :: s37 :: s38 :: s39 :: s40 :: s41 :: s42 :: s43 :: s44 :: s45 :: s46 :: s47 :: []).toArray, []⟩ w := by
  obtain rfl := Option.some.inj (hC.symm.trans (rfl : regOf 10 (Tryz.f136.body.getD .skip) = some _))
  have HK := Lib.hid hK
  clear hK
  have g1 : wrap64 (((m + 1 : Nat) : Int) - 1) = (m : Int) := by rw [IntWalk.wrap64_in _ (by constructor <;> omega)]; omega
  have g2 : wrap64 ((m : Int) + 1 - 1) = (m : Int) := by rw [IntWalk.wrap64_in _ (by constructor <;> omega)]; omega
  have g3 : (m : Int) ≤ (kcap : Int) := by omega
  have g4 : (0 : Int) ≤ (m : Int) := by omega
  have g5 : IntKind.i64.wrap (m : Int) = (m : Int) := by rw [IntWalk.i64_left, IntWalk.wrap64_in _ (by constructor <;> omega)]
  refine wpIn_region_any (by kernel_rfl) ?_
  change wpAnyIn _ _ _ _ _ _ _ _ _ (World.drew _)
  repeat' (first
    | refine wpAnyIn_ready (rs := [0]) (by decide +kernel) (by simp) ?_
    | refine wpAnyIn_ready (rs := [0, 1]) (by decide +kernel) (by simp) ?_
    | refine wpAnyIn_ready (rs := [0, 1, 2]) (by decide +kernel) (by simp) ?_
    | refine wpAnyIn_ready (rs := [0, 1, 3]) (by decide +kernel) (by simp) ?_
    | refine wpAnyIn_ready (rs := [0, 1, 4]) (by decide +kernel) (by simp) ?_
    | refine wpAnyIn_ready (rs := [0, 2]) (by decide +kernel) (by simp) ?_
    | refine wpAnyIn_ready (rs := [0, 3]) (by decide +kernel) (by simp) ?_
    | refine wpAnyIn_ready (rs := [0, 4]) (by decide +kernel) (by simp) ?_
    | refine wpAnyIn_ready (rs := [0, 5]) (by decide +kernel) (by simp) ?_
    | refine wpAnyIn_ready (rs := [1]) (by decide +kernel) (by simp) ?_
    | refine wpAnyIn_ready (rs := [1, 2]) (by decide +kernel) (by simp) ?_
    | refine wpAnyIn_ready (rs := [1, 3]) (by decide +kernel) (by simp) ?_
    | refine wpAnyIn_ready (rs := [1, 4]) (by decide +kernel) (by simp) ?_
    | refine wpAnyIn_ready (rs := [2]) (by decide +kernel) (by simp) ?_
    | refine wpAnyIn_ready (rs := [3]) (by decide +kernel) (by simp) ?_
    | refine wpAnyIn_ready (rs := [4]) (by decide +kernel) (by simp) ?_
    | refine wpAnyIn_ready (rs := [5]) (by decide +kernel) (by simp) ?_
    | refine wpAnyIn_ready (rs := [6]) (by decide +kernel) (by simp) ?_
    | refine wpAnyIn_ready (rs := [7]) (by decide +kernel) (by simp) ?_
    | (refine wpAnyIn_done (by decide +kernel) ?_ _; exact HK.out)
    | exact AllReadyIn.nil
    | (refine AllReadyIn.cons rfl (fun K hK => ?_) ?_; (refine app_step rfl rfl rfl rfl hrun ?_; refine hK _ _ ?_; clear hK K))
    | (refine AllReadyIn.cons rfl (fun K hK => ?_) ?_; (go_simp; refine hK _ _ ?_; clear hK K)))
end Go.Proofs.Lx6

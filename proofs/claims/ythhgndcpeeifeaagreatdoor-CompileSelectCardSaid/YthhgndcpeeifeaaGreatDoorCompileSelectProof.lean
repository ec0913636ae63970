/- CompileSelectCardSaid: a select is the loop that stops anywhere, written out. The row out of the walk, and the card. Conditions: none beyond the row's own list of variables. -/
import Derived.Test.YthhgndcpeeifeaaGreatDoorLawS
import Derived.Test.YthhgndcpeeifeaaGreatDoorCards
import Derived.Test.YthhgndcpeeifeaaGreatDoorTie
import Derived.OpenShut
import Derived.LaidMore
import Derived.LaidOnce
import Derived.Deep.DeepHandedRow
set_option maxHeartbeats 8000000
namespace Go.Proofs.YthhgndcpeeifeaaGreatDoor.compileSelect
open Go.ChangeShapes Go.WideShapes Go.ChangeAt Go.RowKit
theorem fy : ownKnob Tryz.prog.godebug = none := by kernel_rfl
theorem met_of_bits {P : Program} {w : World} {l : List (String × DataW Unit)} (fuel M : Nat) (h : (DataW.laidRun P w fuel (l.map (·.1))).map (·.1) = some l)
  (hr : (DataW.laidRun P w fuel (l.map (·.1))).map (fun x => nodupBits M x.2 0 && laidRowsB P w x.2) = some true) : laidMet P l w := by
 cases hx : DataW.laidRun P w fuel (l.map (·.1)) with
 | none => simp [hx] at h
 | some x =>
  obtain ⟨l', ps⟩ := x
  simp only [hx, Option.map_some, Option.some.injEq] at h hr
  subst h
  rw [Bool.and_eq_true] at hr
  exact laidMet_of_run fuel hx (decide_eq_true (nodupBits_sound hr.1).1) hr.2
theorem door_met (os : Os) (args : Array Value) : laidMetH Tryz.prog Rows.compileSelectRow.laid ((World.doorLaid Tryz.prog 93 os).forCall (fun _ _ => 0) ⟨#[], args, []⟩).memory :=
 laidMetH_of_parts3 (fuel := 8) (met_of_bits 8 257 (by as_aux_lemma => kernel_rfl) (by as_aux_lemma => kernel_rfl)) (by as_aux_lemma => kernel_rfl) (by as_aux_lemma => kernel_rfl)
theorem shaped (os : Os) (args : Array Value) : ((World.doorLaid Tryz.prog 93 os).forCall (fun _ _ => 0) ⟨#[], args, []⟩).Shaped Tryz.prog := World.shaped_of_RefB (by kernel_rfl) (by kernel_rfl)
set_option maxRecDepth 100000 in
theorem lifted (os : Os) (started : os.Started) (H : Type) (enc : TypeId × Value → H) (F : Stop.Interp) :
  ReturnsInHanded {} Tryz.checked os 4 .any ((OpenSpec.ofChange Rows.compileSelectSpec).preRow enc Tryz.prog Tryz.f4 Rows.compileSelectRow.domain false Rows.compileSelectRow.laid) (((OpenSpec.ofChange Rows.compileSelectSpec).at F).post enc Tryz.prog Tryz.f4 false true false false) := by
 have hx : DataW.whole enc Tryz.prog ((World.doorLaid Tryz.prog 93 os).forCall (fun _ _ => 0) ⟨#[], #[.int .i64 0, .int .i64 0, .int .i64 0], []⟩).memory Tryz.f4.params.toList Rows.compileSelectSpec.vars false #[Value.int .i64 0, .int .i64 0, .int .i64 0].toList 8 = some ([.lit (.int .i64 0), .lit (.int .i64 0), .lit (.int .i64 0)], [], []) := by kernel_rfl
 have hok : Input.okWideB Tryz.prog ((World.doorLaid Tryz.prog 93 os).forCall (fun _ _ => 0) ⟨#[], #[.int .i64 0, .int .i64 0, .int .i64 0], []⟩) 4 ⟨#[], #[.int .i64 0, .int .i64 0, .int .i64 0], []⟩ = true := by kernel_rfl
 refine returnsInHanded_of_row (C := Tryz.checked) (s := OpenSpec.ofChange Rows.compileSelectSpec) fy started (by kernel_rfl) Tryz.func4
  ⟨World.doorLaid Tryz.prog 93 os, fun _ _ => 0, ⟨#[], #[.int .i64 0, .int .i64 0, .int .i64 0], []⟩, rfl, shaped os _, (Input.okWide_of_okWideB (base := 0) hok).1, (Input.okWide_of_okWideB hok).2,
   OpenSpec.preRow_of_cond 8 hx (by kernel_rfl) (fun k hk => by cases hk) (by kernel_rfl) (door_met os _), by
    simp only [Assume.holds]; exact ⟨by simp, by simp, fun _ => Modest.zero, by simp, by simp⟩⟩ ?_
 intro W base args ds gs before hval hW _ _ hsz hL hsh _
 have hW' := hW
 obtain ⟨p, q, hA0, hV, rfl, hfz, hnd⟩ := hW
 have hA : DataW.TrodAll enc Tryz.prog W 0 (fun _ => true) true Tryz.f4.params.toList args.toList ds p := hA0
 rw [Tryz.params4] at hA hval
 obtain ⟨v0, vs0, d0, ds0, p0, q0, hargs, rfl, rfl, h0, r0⟩ := trodAll_cons hA
 obtain ⟨v1, vs1, d1, ds1, p1, q1, rfl, rfl, rfl, h1, r1⟩ := trodAll_cons r0
 obtain ⟨v2, vs2, d2, ds2, p2, q2, rfl, rfl, rfl, h2, r2⟩ := trodAll_cons r1
 obtain ⟨rfl, rfl, rfl⟩ := trodAll_nil r2
 obtain rfl : args = #[v0, v1, v2] := by cases args; simp_all
 obtain ⟨rfl, rfl⟩ := trodVars_none hV
 obtain ⟨a, rfl, rfl, rfl, wa⟩ := open_int Tryz.underlying3 (hval 0 3 v0 rfl rfl) h0
 obtain ⟨b, rfl, rfl, rfl, wb⟩ := open_int Tryz.underlying3 (hval 1 3 v1 rfl rfl) h1
 obtain ⟨n, rfl, rfl, rfl, wn⟩ := open_int Tryz.underlying3 (hval 2 3 v2 rfl rfl) h2
 clear hA0
 simp only [List.append_nil] at hW'
 refine (Go.Ev.sel_true hL hsh ?_).mono fun e W' ⟨he, bel⟩ => ?_
 · have h : decide (Go.IntKind.i64.min ≤ n) = true ∧ decide (n ≤ Go.IntKind.i64.max) = true := by simpa only [Lit.wf, Bool.and_eq_true] using wn
   have h1 := of_decide_eq_true h.1
   have h2 := of_decide_eq_true h.2
   rw [show Go.IntKind.i64.min = -9223372036854775808 from by decide] at h1
   rw [show Go.IntKind.i64.max = 9223372036854775807 from by decide] at h2
   exact ⟨h1, h2⟩
 subst he
 exact ⟨_, rfl, _, _, _, [], _, [], hW', trodAll_mk1 (shut_bool Tryz.underlying4 _), (trodAll_cons_mk (shut_int Tryz.underlying3 wa) (trodAll_cons_mk (shut_int Tryz.underlying3 wb) (trodAll_cons_mk (shut_int Tryz.underlying3 wn) trodAll_mk0))), rfl, bel.frame _, fun h => by cases h⟩
theorem said : Rows.CompileSelectSaid :=
 OpenClaim.holds_of_cond 4 Tryz.f4 rfl rfl rfl rfl rfl rfl rfl ⟨rfl, rfl, rfl, rfl, rfl⟩ rfl rfl rfl rfl rfl (by as_aux_lemma => kernel_rfl) Tryz.func4 (by unfold joinedFacts; simp only [Bool.and_eq_true]; (repeat' apply And.intro) <;> (as_aux_lemma => kernel_rfl))
  (of_decide_eq_true (by as_aux_lemma => kernel_rfl)) (by as_aux_lemma => unfold Func.isWrapper; first | (rw [if_pos (by decide +kernel)]; kernel_rfl) | (rw [if_neg (by decide +kernel)]; exact ⟨rfl, rfl⟩))
  (fun os started H enc _ F => by rw [OpenClaim.pre_eq_preRow]; exact lifted os started H enc F)
theorem plain (f : FuncId) (fn : Func) (hf : Tryz.pinned.checked.prog.funcNamed "spinneret/spinneretlaw10.CompileSelect" = some f) (hfn : Tryz.pinned.checked.prog.funcs[f]? = some fn) :
  true = Tryz.pinned.checked.prog.looks [] ∧ ∀ (j : Nat) t, fn.params[j]? = some t → Tryz.pinned.checked.prog.wantsStandIn t = false := by
 obtain rfl : f = 4 := Option.some.inj ((show Tryz.prog.funcNamed "spinneret/spinneretlaw10.CompileSelect" = some 4 by kernel_rfl).symm.trans hf) |>.symm
 obtain rfl : fn = Tryz.f4 := (Option.some.inj (Tryz.func4.symm.trans hfn)).symm
 refine ⟨by kernel_rfl, fun j t ht => ?_⟩
 rw [Tryz.params4] at ht
 have h : t = 3 := by simpa using Array.mem_of_getElem? ht
 subst h
 exact (show Tryz.prog.wantsStandIn 3 = false by kernel_rfl)
theorem proved : Rows.CompileSelectCardSaid :=
 Claim7.holds_tied_plain_at .later [] _ _ _ _ said (fun _ h => by cases h) (by kernel_rfl) (fun _ h => by cases h) compileSelect_row_tie rfl ⟨rfl, rfl⟩ (by kernel_rfl) rfl plain (by kernel_rfl)
#print axioms proved
end Go.Proofs.YthhgndcpeeifeaaGreatDoor.compileSelect

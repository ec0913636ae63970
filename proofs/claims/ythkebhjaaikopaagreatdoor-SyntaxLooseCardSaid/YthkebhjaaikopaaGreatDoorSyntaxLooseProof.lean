/- SyntaxLooseCardSaid: where tokens stand, and on which lines, changes nothing of the tree but that: the row out of the walk, and the card. Conditions: none beyond the row's own list of variables. -/
import Derived.Test.YthkebhjaaikopaaGreatDoorM45
import Derived.Test.YthkebhjaaikopaaGreatDoorM46
set_option maxHeartbeats 8000000
namespace Go.Proofs.YthkebhjaaikopaaGreatDoor.syntaxLoose
open Go.ChangeShapes Go.WideShapes Go.ChangeAt Go.RowKit
open Go.ChangeMaps (open_string shut_string)
theorem door_met (os : Os) (args : Array Value) : laidMetH Tryz.prog Rows.syntaxLooseRow.laid ((World.doorLaid Tryz.prog 68 os).forCall (fun _ _ => 0) ⟨#[], args, []⟩).memory :=
 laidMetH_of_parts3 (fuel := 8) (laidMet_of_run' 8 (by kernel_rfl) (by kernel_rfl)) (by kernel_rfl) (by kernel_rfl)
theorem shaped (os : Os) (args : Array Value) : ((World.doorLaid Tryz.prog 68 os).forCall (fun _ _ => 0) ⟨#[], args, []⟩).Shaped Tryz.prog := World.shaped_of_RefB (by kernel_rfl) (by kernel_rfl)
set_option maxRecDepth 100000 in
theorem lifted (os : Os) (started : os.Started) (H : Type) (enc : TypeId × Value → H) (F : Stop.Interp) :
  ReturnsInHanded {} Tryz.checked os 4 .any ((OpenSpec.ofChange Rows.syntaxLooseSpec).preRow enc Tryz.prog Tryz.f4 Rows.syntaxLooseRow.domain false Rows.syntaxLooseRow.laid) (((OpenSpec.ofChange Rows.syntaxLooseSpec).at F).post enc Tryz.prog Tryz.f4 false true false false) := by
 have hx : DataW.whole enc Tryz.prog ((World.doorLaid Tryz.prog 68 os).forCall (fun _ _ => 0) ⟨#[], #[.string ByteArray.empty, .int .i64 0], []⟩).memory Tryz.f4.params.toList Rows.syntaxLooseSpec.vars false #[Value.string ByteArray.empty, .int .i64 0].toList 8 = some ([.lit (.string []), .lit (.int .i64 0)], [], []) := by kernel_rfl
 have hok : Input.okWideB Tryz.prog ((World.doorLaid Tryz.prog 68 os).forCall (fun _ _ => 0) ⟨#[], #[.string ByteArray.empty, .int .i64 0], []⟩) 4 ⟨#[], #[.string ByteArray.empty, .int .i64 0], []⟩ = true := by kernel_rfl
 refine returnsInHanded_of_row (C := Tryz.checked) (s := OpenSpec.ofChange Rows.syntaxLooseSpec) fy started (by kernel_rfl) Tryz.func4
  ⟨World.doorLaid Tryz.prog 68 os, fun _ _ => 0, ⟨#[], #[.string ByteArray.empty, .int .i64 0], []⟩, rfl, shaped os _, (Input.okWide_of_okWideB (base := 0) hok).1, (Input.okWide_of_okWideB hok).2,
   OpenSpec.preRow_of_cond 8 hx (by kernel_rfl) (fun k hk => by cases hk) (by kernel_rfl) (door_met os _), by
    simp only [Assume.holds]; exact ⟨by simp, by simp, fun _ => Modest.zero, by simp, by simp⟩⟩ ?_
 intro W base args ds gs before hval hW _ _ hsz hL hsh _; have hW' := hW; obtain ⟨p, q, hA0, hV, rfl, hfz, hnd⟩ := hW; have hA : DataW.TrodAll enc Tryz.prog W 0 (fun _ => true) true Tryz.f4.params.toList args.toList ds p := hA0; have hsz2 : (DataW.weightsEach Tryz.prog (Tryz.f4.params.toList ++ (OpenSpec.ofChange Rows.syntaxLooseSpec).bare.plain.varTypes Tryz.prog) (ds ++ gs)).all (· ≤ reachBytes) = true := hsz; rw [Tryz.params4] at hA hval hsz2; obtain ⟨v0, vs0, d0, ds0, p0, q0, hargs, rfl, rfl, h0, r0⟩ := trodAll_cons hA; obtain ⟨v1, vs1, d1, ds1, p1, q1, rfl, rfl, rfl, h1, r1⟩ := trodAll_cons r0; obtain ⟨rfl, rfl, rfl⟩ := trodAll_nil r1; obtain rfl : args = #[v0, v1] := by cases args; simp_all
 obtain ⟨rfl, rfl⟩ := trodVars_none hV; obtain ⟨s, rfl, rfl, rfl, ws⟩ := open_string Tryz.underlying9 (hval 0 9 v0 rfl rfl) h0; obtain ⟨n, rfl, rfl, rfl, wn⟩ := open_int Tryz.underlying3 (hval 1 3 v1 rfl rfl) h1; have z0 := sized_string hsz2 (j := 0) (t := 9) rfl rfl; obtain ⟨m, hm⟩ := nu hsh; have e0 : s.data.toList.length = s.size := rfl; rw [e0] at z0; unfold reachBytes at z0; clear hA0; simp only [List.append_nil] at hW'; refine (nB s n m W (by omega) hm (st hL hsh)).mono fun e W' ⟨he, bel⟩ => ?_
 subst he; exact ⟨_, rfl, _, _, _, [], _, [], hW', trodAll_mk1 (shut_bool Tryz.underlying4 _), (trodAll_cons_mk (shut_string Tryz.underlying9 ws) (trodAll_cons_mk (shut_int Tryz.underlying3 wn) trodAll_mk0)), rfl, bel.frame _, fun h => by cases h⟩
theorem said : Rows.SyntaxLooseSaid :=
 OpenClaim.holds_of_cond 4 Tryz.f4 rfl rfl rfl rfl rfl rfl rfl ⟨rfl, rfl, rfl, rfl, rfl⟩ rfl rfl rfl rfl rfl (by kernel_rfl) Tryz.func4 (by kernel_rfl)
  (of_decide_eq_true (by kernel_rfl)) (by unfold Func.isWrapper; first | (rw [if_pos (by decide +kernel)]; kernel_rfl) | (rw [if_neg (by decide +kernel)]; exact ⟨rfl, rfl⟩))
  (fun os started H enc _ F => by rw [OpenClaim.pre_eq_preRow]; exact lifted os started H enc F)
theorem plain (f : FuncId) (fn : Func) (hf : Tryz.pinned.checked.prog.funcNamed "spinneret/spinneretlaw03.SyntaxLoose" = some f) (hfn : Tryz.pinned.checked.prog.funcs[f]? = some fn) :
  true = Tryz.pinned.checked.prog.looks [] ∧ ∀ (j : Nat) t, fn.params[j]? = some t → Tryz.pinned.checked.prog.wantsStandIn t = false := by
 obtain rfl : f = 4 := Option.some.inj ((show Tryz.prog.funcNamed "spinneret/spinneretlaw03.SyntaxLoose" = some 4 by kernel_rfl).symm.trans hf) |>.symm; obtain rfl : fn = Tryz.f4 := (Option.some.inj (Tryz.func4.symm.trans hfn)).symm; refine ⟨by kernel_rfl, fun j t ht => ?_⟩; rw [Tryz.params4] at ht; have h : t = 9 ∨ t = 3 := by simpa using Array.mem_of_getElem? ht
 rcases h with rfl | rfl
 · exact (show Tryz.prog.wantsStandIn 9 = false by kernel_rfl)
 · exact (show Tryz.prog.wantsStandIn 3 = false by kernel_rfl)
theorem proved : Rows.SyntaxLooseCardSaid :=
 Claim7.holds_tied_plain_at .later [] _ _ _ _ said (fun _ h => by cases h) (by kernel_rfl) (fun _ h => by cases h) syntaxLoose_row_tie rfl ⟨rfl, rfl⟩ (by kernel_rfl) rfl plain (by kernel_rfl)
#print axioms proved
end Go.Proofs.YthkebhjaaikopaaGreatDoor.syntaxLoose

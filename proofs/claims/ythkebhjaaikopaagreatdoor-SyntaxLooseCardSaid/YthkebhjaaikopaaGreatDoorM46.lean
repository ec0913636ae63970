/- Part of the proof of SyntaxLooseCardSaid (MG). -/
import Derived.Test.YthkebhjaaikopaaGreatDoorCards
import Derived.Test.YthkebhjaaikopaaGreatDoorTie
import Derived.Test.YthkebhjaaikopaaGreatDoorM05
import Derived.WalkKit
import Derived.ProofKit
import Derived.OpenShut
import Derived.ShutString
import Derived.SliceStrings
import Derived.LaidMore
import Derived.Deep.DeepHandedRow
import Derived.Lib.LaidTab
import Derived.Shelf.Vars
set_option maxHeartbeats 8000000
namespace Go.Proofs.YthkebhjaaikopaaGreatDoor
open Go.ChangeShapes Go.WideShapes Go.ChangeAt Go.RowKit
theorem fy : ownKnob Tryz.prog.godebug = none := by kernel_rfl
theorem uz : Tryz.prog.globalNamed "strings.asciiSpace" = some 0 := by kernel_rfl
theorem tF : Tryz.prog.globalNamed "spinneret/syntax.types" = some 2 := by kernel_rfl
theorem tG : Tryz.prog.globalNamed "spinneret/syntax.shows" = some 3 := by kernel_rfl
theorem su : Tryz.prog.globalNamed "spinneret/syntax.levels" = some 5 := by kernel_rfl
theorem uw : (Tryz.prog.globals[0]?).map (·.type) = some 80 := by kernel_rfl
theorem tj : (Tryz.prog.globals[2]?).map (·.type) = some 53 := by kernel_rfl
theorem tl : (Tryz.prog.globals[3]?).map (·.type) = some 53 := by kernel_rfl
theorem rO : (Tryz.prog.globals[5]?).map (·.type) = some 195 := by kernel_rfl
theorem sD : Tryz.prog.cellsOf 80 = 256 := by kernel_rfl
theorem tQ : Tryz.prog.cellsOf 5 = 1 := by kernel_rfl
theorem rj : Tryz.prog.cellsOf 194 = 2 := by kernel_rfl
theorem sE : Tryz.prog.cellsOf 53 = 1 := by kernel_rfl
theorem tR : Tryz.prog.cellsOf 3 = 1 := by kernel_rfl
theorem tZ : (Rows.laid_strings_asciiSpace : DataW Unit) = Lib.tabData .u8 Lib.asciiSpaceTab := by kernel_rfl
def fT (L : List ByteArray) : List (DataW Unit) := L.map fun l => .lit (.string l.data.toList)
theorem lx : ∀ {ss L : List ByteArray}, (strs ss : List (DataW Unit)) = fT L → ss = L
 | [], [], _ => rfl
 | [], _ :: _, h => by simp [strs, fT] at h
 | _ :: _, [], h => by simp [strs, fT] at h
 | s :: ss, l :: L, h => by
  simp only [strs, fT, List.map_cons, List.cons.injEq] at h; obtain ⟨h1, h2⟩ := h; injection h1 with h1; injection h1 with h1; have h3 : s = l := ByteArray.ext (Array.toList_inj.1 h1); rw [h3, lx (ss := ss) (L := L) h2]
theorem gw {w : World} {fuel : Nat} {cs : List Value} {L : List ByteArray} {p : List MemPlace} (hL : 0 < L.length) (h : DataW.trod (fun _ => ()) Tryz.prog w 0 (fun _ => true) false fuel 53 cs = some (.slice (fT L) [], p)) :
  ∃ b o, cs = [.slice (some ⟨b, o, none⟩) L.length L.length] ∧ b < w.heap.size ∧ ∀ j, j < L.length → w.cell? ⟨b, o + j, none⟩ = some (.string (L.getD j default)) := by
 rcases open_strings Tryz.underlying53 Tryz.underlying9 (by kernel_rfl) h with ⟨_, h1⟩ | ⟨a, len, cap, ss, rfl, _, h1, _, h2, h3, h4, _⟩
 · cases h1
 · simp only [Prod.mk.injEq, DataW.slice.injEq] at h3; obtain ⟨⟨h5, h6⟩, _⟩ := h3; simp only [if_true] at h2; have h7 := lx h5.symm; have h8 : ss.drop len = [] := by
    cases hd : ss.drop len with
    | nil => rfl
    | cons x l => rw [hd] at h6; simp [strs] at h6
   have h9 : ss.length ≤ len := by simpa using h8
   have h10 : len = cap := by omega
   have h11 : ss = L := by rw [← h7, List.take_of_length_le h9]
   subst h11; subst h10; rw [← h2]; have h12 := h4 0 hL; obtain ⟨b, o, sp⟩ := a; have hs : sp = none := by
    cases sp with
    | none => rfl
    | some x => simp [Addr.add, World.cell?] at h12; split at h12 <;> simp at h12
   subst hs; refine ⟨b, o, rfl, ?_, fun j hj => ?_⟩
   · rcases Nat.lt_or_ge b w.heap.size with h | h
     · exact h
     · simp [Addr.add, World.cell?, Array.getElem?_eq_none h] at h12
   · have h13 := h4 j hj; have h14 : (⟨b, o, none⟩ : Addr).add j = ⟨b, o + j, none⟩ := by unfold Addr.add; split <;> simp_all
     rw [h14] at h13; exact h13
theorem dR {W : World} {g : Nat} {zero : Array Value} {t : TypeId} {cs : Array Value} {n : String} (h : W.ShapedOpen Tryz.prog) (hg : g < Tryz.prog.globals.size) (h0 : ((begin Tryz.prog (fun _ _ => 0) default).world.heap[g]?).bind Obj.row? = some (zero, t)) (hn : Tryz.prog.globalNamed n = some g) (hv : W.var? Tryz.prog n = some cs) : W.heap[g]? = some (.cells cs t (0, 0)) := by
 obtain ⟨cs', h1, _, _⟩ := h.1 g zero t hg h0; unfold World.var? at hv; rw [hn, Option.bind_some, h1] at hv; injection hv with hv; rw [h1, hv]
theorem nu {W : World} (h : W.ShapedOpen Tryz.prog) : ∃ m, W.cell? ⟨4, 0, none⟩ = some (.int .i64 m) :=
 Go.Proofs.cell_of_shapedOpen_int (zero := #[.int .i64 0]) (t := 3) h (of_decide_eq_true (by kernel_rfl)) (by kernel_rfl) rfl (by kernel_rfl) (by kernel_rfl) Tryz.underlying3
def oI : List (DataW Unit) := (List.range 10).map fun k => .agg [.slice (fT (az k)) [], .lit (.int .i64 (ef k))]
theorem qT : (Rows.laid_spinneret_syntax_levels : DataW Unit) = .agg oI := by kernel_rfl
theorem rM : (Rows.laid_spinneret_syntax_types : DataW Unit) = .slice (fT (⟨#[]⟩ :: cz)) [] := by kernel_rfl
theorem rS : (Rows.laid_spinneret_syntax_shows : DataW Unit) = .slice (fT (⟨#[]⟩ :: cJ)) [] := by kernel_rfl
theorem nw : ∀ k, 0 < (az k).length := by
 intro k; unfold az
 split <;> decide
theorem pA : ∀ k, (az k).length ≤ 1000 := by
 intro k; unfold az
 split <;> decide
theorem oL {cs : List Value} {i : Nat} {n : Nat} {v : Value} (h : ((cs.drop i).take 2 |>.drop n).take 1 = [v]) (hn : n < 2) : cs[i + n]? = some v := by
 have h1 := congrArg (fun l => l[0]?) h; simpa [List.getElem?_take, List.getElem?_drop, hn] using h1
theorem lW {w : World} {fuel : Nat} {cs : List Value} {p : List MemPlace} (h : DataW.trod (fun _ => ()) Tryz.prog w 0 (fun _ => true) false fuel 195 cs = some (Rows.laid_spinneret_syntax_levels, p)) (k : Nat) (hk : k < 10) :
  ∃ b o, cs[2 * k]? = some (.slice (some ⟨b, o, none⟩) (az k).length (az k).length) ∧ cs[2 * k + 1]? = some (.int .i64 (ef k)) ∧ b < w.heap.size ∧ ∀ j, j < (az k).length → w.cell? ⟨b, o + j, none⟩ = some (.string ((az k).getD j default)) := by
 rw [qT] at h; obtain ⟨xs, m, _, hx, _, hl, hf⟩ := DataW.trod_array Tryz.underlying195 h; simp only [Prod.mk.injEq, DataW.agg.injEq] at hx; have h1 := hf k hk; rw [rj] at h1; have h2 : (xs.map (·.1))[k]? = some (.agg [.slice (fT (az k)) [], .lit (.int .i64 (ef k))]) := by
  rw [← hx.1]; unfold oI; rw [List.getElem?_map, List.getElem?_range hk]; rfl
 rw [List.getElem?_map] at h2; cases hy : xs[k]? with
 | none => rw [hy] at h2; cases h2
 | some y =>
  rw [hy] at h1 h2; obtain ⟨y0, y1, n, rfl, _, h3, h4⟩ := trod_struct2 Tryz.underlying194 h1; simp only [Option.map_some, Option.some.injEq, DataW.agg.injEq, List.cons.injEq, and_true] at h2; obtain ⟨h5, h6⟩ := h2; obtain ⟨d0, q0⟩ := y0; obtain ⟨d1, q1⟩ := y1; simp only at h5 h6 h3 h4; subst h5; subst h6; rw [sE] at h3; rw [tR] at h4; obtain ⟨b, o, e, hb, hc⟩ := gw (nw k) h3; obtain ⟨z, e2, e3, _⟩ := DataW.trod_int Tryz.underlying3 h4; simp only [Prod.mk.injEq, DataW.lit.injEq, Lit.int.injEq, true_and] at e3; have g1 := oL e (by decide); have g2 := oL e2 (by decide); rw [← e3.1] at g2; rw [Nat.mul_comm] at g1 g2; exact ⟨b, o, g1, g2, hb, hc⟩
theorem st {W : World} (h : laidMetH Tryz.prog Rows.syntaxLooseRow.laid W) (hs : W.ShapedOpen Tryz.prog) : lf W := by
 unfold Rows.syntaxLooseRow at h; simp only at h; rw [MakeChecks.laidMetH_plain _ _ _ (by kernel_rfl)] at h; obtain ⟨ps, ⟨g0, t0, cs0, f0, p0, q0, hg0, ht0, hv0, hd0, ⟨g1, t1, cs1, f1, p1, q1, hg1, ht1, hv1, hd1, ⟨g2, t2, cs2, f2, p2, q2, hg2, ht2, hv2, hd2, ⟨g3, t3, cs3, f3, p3, q3, hg3, ht3, hv3, hd3, ⟨g4, t4, cs4, f4, p4, q4, hg4, ht4, hv4, hd4, _, _⟩, _⟩, _⟩, _⟩, _⟩, _, _⟩ := h; obtain rfl := Option.some.inj (uz.symm.trans hg1); obtain rfl := Option.some.inj (uw.symm.trans ht1); obtain rfl := Option.some.inj (su.symm.trans hg2); obtain rfl := Option.some.inj (rO.symm.trans ht2); obtain rfl := Option.some.inj (tF.symm.trans hg3); obtain rfl := Option.some.inj (tj.symm.trans ht3); obtain rfl := Option.some.inj (tG.symm.trans hg4); obtain rfl := Option.some.inj (tl.symm.trans ht4); have k2 := dR (zero := (((begin Tryz.prog (fun _ _ => 0) default).world.heap[5]?).bind Obj.row?).getD default |>.1) (t := 195) hs (of_decide_eq_true (by kernel_rfl)) (by kernel_rfl) hg2 hv2; have k3 := dR (zero := (((begin Tryz.prog (fun _ _ => 0) default).world.heap[2]?).bind Obj.row?).getD default |>.1) (t := 53) hs (of_decide_eq_true (by kernel_rfl)) (by kernel_rfl) hg3 hv3; have k4 := dR (zero := (((begin Tryz.prog (fun _ _ => 0) default).world.heap[3]?).bind Obj.row?).getD default |>.1) (t := 53) hs (of_decide_eq_true (by kernel_rfl)) (by kernel_rfl) hg4 hv4; rw [rM] at hd3; rw [rS] at hd4; obtain ⟨b3, o3, e3, hb3, hc3⟩ := gw (by decide) hd3; obtain ⟨b4, o4, e4, hb4, hc4⟩ := gw (by decide) hd4; have e3' : cs3 = #[.slice (some ⟨b3, o3, none⟩) 10 10] := Array.toList_inj.1 e3; have e4' : cs4 = #[.slice (some ⟨b4, o4, none⟩) 4 4] := Array.toList_inj.1 e4; subst e3'; subst e4'; refine ⟨?_, ⟨b3, o3, 10, k3, Nat.le_refl _, by decide, hb3, fun j hj => ?_⟩, ⟨b4, o4, 4, k4, Nat.le_refl _, by decide, hb4, fun j hj => ?_⟩, ⟨cs2, k2, fun k hk => ?_⟩, ?_⟩
 · rw [tZ] at hd1; unfold Lib.TabIs; rw [hv1, ← Lib.cells_of_tab Tryz.underlying80 Tryz.underlying5 tQ sD hd1]
 · have h1 := hc3 (j + 1) (show j + 1 < 10 by omega); rw [Nat.add_comm j 1, ← Nat.add_assoc] at h1; rw [h1, Nat.add_comm 1 j]; rfl
 · have h1 := hc4 (j + 1) (show j + 1 < 4 by omega); rw [Nat.add_comm j 1, ← Nat.add_assoc] at h1; rw [h1, Nat.add_comm 1 j]; rfl
 · obtain ⟨b, o, r1, r2, r3, r4⟩ := lW hd2 k hk; exact ⟨b, o, _, by simpa using r1, by simpa using r2, Nat.le_refl _, pA k, r3, r4⟩
 · have := (Array.getElem?_eq_some_iff.1 k2).1; omega
end Go.Proofs.YthkebhjaaikopaaGreatDoor

/- Part of the proof of SyntaxLooseCardSaid (MC). -/
import Derived.Test.YthkebhjaaikopaaGreatDoorM38
import Derived.Test.YthkebhjaaikopaaGreatDoorM42
import Derived.Test.YthkebhjaaikopaaGreatDoorM17
set_option maxHeartbeats 8000000
namespace Go.Proofs.YthkebhjaaikopaaGreatDoor
open Go.ChangeShapes Go.WideShapes Go.ChangeAt Go.RowKit Go.Deep Go.Joins Go.Instr
theorem eN (a b c d e : Nat) : bG (eO a b c d e) = true := by
 unfold bG; rw [decide_eq_true_iff]; refine ⟨by simp [eO], fun i hi => ?_⟩; simp [eO] at hi; rcases i with _ | _ | _ | _ | _ | i
 all_goals first | omega | simp [eO]
theorem gt {a b c d e : Nat} {t : ay} {p : ay → Prop} (ht : t ∈ eO a b c d e) (h : ∀ l, p ⟨1, 0, l, ⟨#[98, 121, 116, 101]⟩, 0⟩ ∧ p ⟨1, 5, l, ⟨#[120]⟩, 0⟩ ∧ p ⟨4, 7, l, ⟨#[61]⟩, 0⟩ ∧ p ⟨2, 9, l, ⟨#[49]⟩, 1⟩ ∧ p ⟨0, 10, l, ⟨#[]⟩, 0⟩) : p t := by
 simp only [eO, List.mem_cons, List.not_mem_nil, or_false] at ht; rcases ht with rfl | rfl | rfl | rfl | rfl
 · exact (h _).1
 · exact (h _).2.1
 · exact (h _).2.2.1
 · exact (h _).2.2.2.1
 · exact (h _).2.2.2.2
def sO : R Int := parse [⟨1, ⟨#[98, 121, 116, 101]⟩, 0⟩, ⟨1, ⟨#[120]⟩, 0⟩, ⟨4, ⟨#[61]⟩, 0⟩, ⟨2, ⟨#[49]⟩, 1⟩, ⟨0, ⟨#[]⟩, 0⟩] 130
def tD : R Int → Nat
 | .ok _ s => s.tree.length
 | _ => 0
theorem oY : tD sO = 5 := by kernel_rfl
theorem mZ (m : Int) (w : World) (hm : w.cell? ⟨4, 0, none⟩ = some (.int .i64 m)) (G : lf w) :
  Calls Tryz.prog 11 #[.string ⟨#[98, 121, 116, 101, 32, 120, 32, 61, 32, 49]⟩] w fun e w' => ∃ (a : Option Addr) (c : Nat), e = .returned (.tuple #[.slice a 5 c, .int .i64 0, .int .i64 0]) ∧ Below w.heap.size w w' := by
 have HG := qd G; have HM := qd hm; have HT := qd G.tab; clear G hm; go_enter Tryz.func11, Tryz.ntmps11; go_wp2_with fail; refine (pE m _ HM.out HT.out).mono ?_; rintro e w1 ⟨v, a, b, c, d, f, rfl, hs, hB⟩; obtain ⟨aa, ca, rfl, ma, HA⟩ := aV hs; have HS := qd hs; have HB := qd hB; clear hs hB HA ma; go_wp2_with fail; refine wp_loop_rounds 3 ?_; rw [rounds_succ]; go_wp2_with fail; refine (Px.kJ _ _ _ (HS.out.keep (br.alloc (Nat.le_refl _) _)) (eN a b c d f) (by simp [eO]) (fun t ht => gt (p := fun t => Px.eK 4 t ⟨#[35]⟩ = false) ht (fun l => ⟨by simp [Px.eK], by simp [Px.eK], by simp [Px.eK], by simp [Px.eK], by simp [Px.eK]⟩))).mono ?_; rintro e w2 ⟨v2, rfl, hs2, hB2⟩; have q1 : w2.cell? ⟨w1.heap.size, 1, none⟩ = some (.func (.func 32) #[] #[]) := (hB2.cell (p := ⟨w1.heap.size, 1, none⟩) (by simp)).trans (by simp [go_sem]); obtain ⟨aa2, ca2, rfl, ma, HA⟩ := aV hs2; have HS2 := qd hs2; have HB2 := qd (HB.out.trans ((((Below.refl w1.heap.size w1).alloc (Nat.le_refl _) _).trans (hB2.mono (by simp))).mono HB.out.size)); have hw1 : w1.heap.size < w2.heap.size := by have := hB2.size; simp at this; omega
 clear hs2 hB2 HA ma; go_wp2_with fail; rw [rounds_succ]; go_wp2_with fail; refine (Px.jm _ _ _ HS2.out (eN a b c d f) (by simp [eO]) (fun t ht => gt (p := fun t => Px.eK 1 t ⟨#[105, 110, 108, 105, 110, 101]⟩ = false ∧ Px.eK 4 t ⟨#[123]⟩ = false ∧ Px.eK 4 t ⟨#[125]⟩ = false) ht (fun l => ⟨by simp [Px.eK], by simp [Px.eK], by simp [Px.eK], by simp [Px.eK], by simp [Px.eK]⟩))).mono ?_; rintro e w3 ⟨v3, rfl, hs3, hB3⟩; obtain ⟨aa3, ca3, rfl, ma, HA⟩ := aV hs3; have HS3 := qd hs3; have HB3 := qd (HB2.out.trans (hB3.mono HB2.out.size)); clear hs3 hB3 HA ma q1; go_wp2_with fail; rw [rounds_succ]; go_wp2_with fail; obtain ⟨R, HR⟩ : ∃ R, R = sO := ⟨_, rfl⟩; refine (fd _ _ _ HS3.out (eN a b c d f) (by simp [eO]) (fun t ht => gt (p := fun t => t.text.size ≤ 1000000) ht (fun l => ⟨by simp only; decide, by simp only; decide, by simp only; decide, by simp only; decide, by simp only; decide⟩)) (HG.out.keep HB3.out) R HR.symm).mono ?_; intro e w4 h4; have h5 := oY; rw [← HR] at h5; unfold fC at h4; cases R with
 | err c p => simp [tD] at h5
 | stuck => simp [tD] at h5
 | ok x s =>
  obtain ⟨E, v, T, _, _, rfl, hT, hO, _, _, hB4⟩ := h4; have hl : T.length = 5 := by rw [← h5]; show _ = s.tree.length; rw [← hT]; simp
  obtain ⟨aa4, ca4, rfl⟩ := hO.slice; rw [hl]; have HB4 := qd (HB3.out.trans (hB4.mono HB3.out.size)); clear hB4 hO hT h5 HR hl; go_wp2_with fail; go_ret3; exact ⟨_, _, rfl, HB4.out⟩
theorem pV (m : Int) (w : World) (hm : w.cell? ⟨4, 0, none⟩ = some (.int .i64 m)) (G : lf w) :
  Calls Tryz.prog 9 #[] w fun e w' => e = .returned (.bool true) ∧ Below w.heap.size w w' := by
 have HG := qd G; have HM := qd hm; clear G hm; go_enter Tryz.func9, Tryz.ntmps9; go_wp2_with fail; refine (mZ m _ HM.out HG.out).mono ?_; rintro e w1 ⟨a, c, rfl, hB⟩; have HB := qd hB; clear hB; go_wp2_with fail; go_ret; exact ⟨rfl, HB.out⟩
end Go.Proofs.YthkebhjaaikopaaGreatDoor

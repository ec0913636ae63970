/-
  GoodStill: the walk. Condition: the model is laid as data.
-/
import Derived.Test.YtblpajbacdbgpaaBG
namespace Go.Proofs.Ytblpajbacdbgpaa
open Go.ChangeShapes Go.WideShapes Go.ChangeAt Go.RowKit Go.Deep Go.Joins
set_option maxHeartbeats 4000000 in
set_option maxRecDepth 100000 in
theorem still_walk (M : MoD) (w : World) (hM : M.ok w) :
    Calls Try.prog 4 #[M.val] w fun e w' => e = .returned (.bool true) ∧ Below w.heap.size w w' := by
  have HCH : Hid (∀ W, Below w.heap.size w W → Calls Try.prog 12 #[M.val] W fun e w' => e = .returned (c3V (checkF M)) ∧ Below W.heap.size W w') := fun W hW => check_any M w hM W hW
  obtain ⟨ag, cg, egv, -, -, -⟩ := hM.gv
  obtain ⟨ai, ci, eiv, -, -, -⟩ := hM.iv
  obtain ⟨as_, cs, esv, -, -, -⟩ := hM.sv
  obtain ⟨ac, cc, ecv, -, -, -⟩ := hM.cv
  obtain ⟨ap, cp, epv, -, -, -⟩ := hM.pv
  obtain ⟨ax, cx, exv, -, -, -⟩ := hM.xv
  unfold MoD.val at HCH ⊢
  rw [egv, eiv, esv, ecv, epv, exv] at HCH ⊢
  clear egv eiv esv ecv epv exv
  have hform : ∃ x y z : Int, checkF M = (x, y, z) ∧ ((x = 0 ∧ y = 0 ∧ z = 0) ∨ x = 40) := by
    rcases check_form M with h | h
    · exact ⟨0, 0, 0, h, .inl ⟨rfl, rfl, rfl⟩⟩
    · exact ⟨(checkF M).1, (checkF M).2.1, (checkF M).2.2, rfl, .inr h⟩
  obtain ⟨x, y, z, hxyz, hf⟩ := hform
  rw [hxyz] at HCH
  unfold c3V at HCH
  clear hxyz hM
  go_enter Try.func4, Try.ntmps4
  go_upto_region 1 with fail
  generalize hbx : w.alloc (.cells #[.slice ag M.globals.length cg, .slice ai M.init.length ci, .slice as_ M.shapes.length cs, .slice ac M.chans.length cc, .slice ap M.procs.length cp, .int .i64 M.claim, .slice ax M.exprs.length cx] 39) = W0 at *
  have hW0 : Below w.heap.size w W0 := by rw [← hbx]; exact (Below.refl _ _).alloc (Nat.le_refl _) _
  have hz0 : w.heap.size < W0.heap.size := by rw [← hbx]; simp
  have k0 : W0.cell? ⟨w.heap.size, 0, none⟩ = some (.slice ag M.globals.length cg) := by rw [← hbx]; simp [go_sem]
  have k1 : W0.cell? ⟨w.heap.size, 1, none⟩ = some (.slice ai M.init.length ci) := by rw [← hbx]; simp [go_sem]
  have k2 : W0.cell? ⟨w.heap.size, 2, none⟩ = some (.slice as_ M.shapes.length cs) := by rw [← hbx]; simp [go_sem]
  have k3 : W0.cell? ⟨w.heap.size, 3, none⟩ = some (.slice ac M.chans.length cc) := by rw [← hbx]; simp [go_sem]
  have k4 : W0.cell? ⟨w.heap.size, 4, none⟩ = some (.slice ap M.procs.length cp) := by rw [← hbx]; simp [go_sem]
  have k5 : W0.cell? ⟨w.heap.size, 5, none⟩ = some (.int .i64 M.claim) := by rw [← hbx]; simp [go_sem]
  have k6 : W0.cell? ⟨w.heap.size, 6, none⟩ = some (.slice ax M.exprs.length cx) := by rw [← hbx]; simp [go_sem]
  clear hbx
  go_wp2_with fail
  refine (shown_any _).mono ?_
  rintro e w1 ⟨rfl, hB1⟩
  have r0 := (hB1.cell (p := ⟨w.heap.size, 0, none⟩) hz0).trans k0
  have r1 := (hB1.cell (p := ⟨w.heap.size, 1, none⟩) hz0).trans k1
  have r2 := (hB1.cell (p := ⟨w.heap.size, 2, none⟩) hz0).trans k2
  have r3 := (hB1.cell (p := ⟨w.heap.size, 3, none⟩) hz0).trans k3
  have r4 := (hB1.cell (p := ⟨w.heap.size, 4, none⟩) hz0).trans k4
  have r5 := (hB1.cell (p := ⟨w.heap.size, 5, none⟩) hz0).trans k5
  have r6 := (hB1.cell (p := ⟨w.heap.size, 6, none⟩) hz0).trans k6
  have hE1 : Below w.heap.size w w1 := hW0.trans (hB1.mono hW0.size)
  have hD1 : Below W0.heap.size W0 w1 := hB1
  clear hB1
  go_wp2_with fail
  (with_reducible refine (HCH.out _ hE1).mono ?_)
  rintro e w2 ⟨rfl, hB2⟩
  have hE2 : Below w.heap.size w w2 := hE1.trans (hB2.mono hE1.size)
  have hD2 : Below W0.heap.size W0 w2 := hD1.trans (hB2.mono hD1.size)
  clear hB2
  have s0 := (hD2.cell (p := ⟨w.heap.size, 0, none⟩) hz0).trans k0
  have s1 := (hD2.cell (p := ⟨w.heap.size, 1, none⟩) hz0).trans k1
  have s2 := (hD2.cell (p := ⟨w.heap.size, 2, none⟩) hz0).trans k2
  have s3 := (hD2.cell (p := ⟨w.heap.size, 3, none⟩) hz0).trans k3
  have s4 := (hD2.cell (p := ⟨w.heap.size, 4, none⟩) hz0).trans k4
  have s5 := (hD2.cell (p := ⟨w.heap.size, 5, none⟩) hz0).trans k5
  have s6 := (hD2.cell (p := ⟨w.heap.size, 6, none⟩) hz0).trans k6
  go_wp2_with fail
  (with_reducible refine (HCH.out _ hE2).mono ?_)
  rintro e w3 ⟨rfl, hB3⟩
  have hE3 : Below w.heap.size w w3 := hE2.trans (hB3.mono hE2.size)
  clear hB3
  rcases hf with ⟨rfl, rfl, rfl⟩ | rfl
  all_goals
    go_wp2
    go_ret
    exact ⟨rfl, hE3⟩
end Go.Proofs.Ytblpajbacdbgpaa
namespace Go.Proofs.Ytblpajbacdbgpaa.goodStill
open Go.ChangeShapes Go.WideShapes Go.ChangeAt Go.RowKit
theorem walk {H : Type} {enc : TypeId × Value → H} (W : World) (base : Nat) (v0 : Value) {d0 : DataW H} {p0 : List MemPlace} (hv : Value.okWide Try.prog W .any base 39 v0) (h0 : DataW.Trod enc Try.prog W 0 (fun _ => true) true 39 v0 d0 p0) (hs : Small d0) :
    Calls Try.prog 4 #[v0] W fun e w' => e = .returned (.bool true) ∧ Below W.heap.size W w' := by
  obtain ⟨M, rfl, hM⟩ := model_of hv h0 hs
  exact still_walk M W hM
end Go.Proofs.Ytblpajbacdbgpaa.goodStill

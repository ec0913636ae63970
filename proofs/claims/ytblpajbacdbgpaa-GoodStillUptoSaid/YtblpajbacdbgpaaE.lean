/-
  good.Check at the empty model, and at the smallest one with priority 0 and 1. No condition beyond the cells that it reads.
-/
import Derived.Test.YtblpajbacdbgpaaD
namespace Go.Proofs.Ytblpajbacdbgpaa
open Go.ChangeShapes Go.WideShapes Go.ChangeAt Go.RowKit

set_option maxHeartbeats 1000000 in
set_option maxRecDepth 20000 in
theorem check_empty (w : World) : Calls Try.prog 12 #[.agg #[.slice none 0 0, .slice none 0 0, .slice none 0 0, .slice none 0 0, .slice none 0 0, .int .i64 0, .slice none 0 0]] w fun e w' => e = .returned (.tuple #[.int .i64 40, .int .i64 3, .int .i64 (-1)]) ∧ Below w.heap.size w w' := by
  go_enter Try.func12, Try.ntmps12
  go_wp2_with fail
  refine (tables_empty _ _ (by simp [go_sem]) (by simp [go_sem]) (by simp [go_sem]) (by simp [go_sem]) (by simp [go_sem]) (by simp [go_sem]) (by simp [go_sem])).mono ?_
  rintro e w1 ⟨rfl, hb1⟩
  go_wp2
  go_ret3
  exact ⟨rfl, (((Below.refl _ _).alloc (Nat.le_refl _) _).alloc (by simp) _).trans (hb1.mono (by simp; omega))⟩
set_option maxHeartbeats 1000000 in
set_option maxRecDepth 20000 in
theorem check_0 (p l : Nat) (w : World)  (g0 : w.cell? ⟨p, 0, none⟩ = some (.string ByteArray.empty)) (g1 : w.cell? ⟨p, 1, none⟩ = some (.int .i64 0)) (g2 : w.cell? ⟨p, 2, none⟩ = some (.slice none 0 0)) (g3 : w.cell? ⟨p, 3, none⟩ = some (.slice none 0 0)) (g4 : w.cell? ⟨p, 4, none⟩ = some (.slice (some ⟨l, 0, none⟩) 1 1)) (g5 : w.cell? ⟨p, 5, none⟩ = some (.int .i64 0)) (g6 : w.cell? ⟨p, 6, none⟩ = some (.int .i64 0)) (g7 : w.cell? ⟨p, 7, none⟩ = some (.int .i64 0)) (g8 : w.cell? ⟨p, 8, none⟩ = some (.int .i64 0)) (g9 : w.cell? ⟨p, 9, none⟩ = some (.int .i64 (-1)))  : Calls Try.prog 12 #[.agg #[.slice none 0 0, .slice none 0 0, .slice none 0 0, .slice none 0 0, .slice (some ⟨p, 0, none⟩) 1 1, .int .i64 (-1), .slice none 0 0]] w fun e w' => e = .returned (.tuple #[.int .i64 40, .int .i64 4, .int .i64 0]) ∧ Below w.heap.size w w' := by
  have hp := World.block_lt_of_cell? w _ g0
  simp at hp
  go_enter Try.func12, Try.ntmps12
  go_wp2_with fail
  refine (tables_small _ (some ⟨p, 0, none⟩) _ (by simp [go_sem]) (by simp [go_sem]) (by simp [go_sem]) (by simp [go_sem]) (by simp [go_sem]) (by simp [go_sem]) (by simp [go_sem])).mono ?_
  rintro e w1 ⟨rfl, hb1⟩
  have hc1 := bcell hb1
  have hz1 := hb1.size
  simp at hz1
  have hz2 : w.heap.size < w1.heap.size := by omega
  have hB1 : Below w.heap.size w w1 := (((Below.refl _ _).alloc (Nat.le_refl _) _).alloc (by simp) _).trans (hb1.mono (by simp; omega))
  have hp1 : ∀ o, w1.cell? ⟨p, o, none⟩ = w.cell? ⟨p, o, none⟩ := fun o => hB1.cell hp
  go_wp2
  refine wp_loop_rounds 2 ?_
  rw [rounds_succ]
  go_wp2_with fail
  refine (frame_0 _ _).mono ?_
  rintro e w2 ⟨rfl, hb2⟩
  go_wp2
  go_ret3
  exact ⟨rfl, ((((Below.refl _ _).alloc (Nat.le_refl _) _).alloc (by simp) _).trans (hb1.mono (by simp; omega))).trans (((Below.refl _ _).alloc (by omega) _).trans (hb2.mono (by simp; omega)))⟩
set_option maxHeartbeats 1000000 in
set_option maxRecDepth 20000 in
theorem check_1 (p l : Nat) (w : World)  (g0 : w.cell? ⟨p, 0, none⟩ = some (.string ByteArray.empty)) (g1 : w.cell? ⟨p, 1, none⟩ = some (.int .i64 0)) (g2 : w.cell? ⟨p, 2, none⟩ = some (.slice none 0 0)) (g3 : w.cell? ⟨p, 3, none⟩ = some (.slice none 0 0)) (g4 : w.cell? ⟨p, 4, none⟩ = some (.slice (some ⟨l, 0, none⟩) 1 1)) (g5 : w.cell? ⟨p, 5, none⟩ = some (.int .i64 0)) (g6 : w.cell? ⟨p, 6, none⟩ = some (.int .i64 0)) (g7 : w.cell? ⟨p, 7, none⟩ = some (.int .i64 0)) (g8 : w.cell? ⟨p, 8, none⟩ = some (.int .i64 1)) (g9 : w.cell? ⟨p, 9, none⟩ = some (.int .i64 (-1)))  (h0 : w.cell? ⟨l, 0, none⟩ = some (.slice none 0 0)) (h1 : w.cell? ⟨l, 1, none⟩ = some (.slice none 0 0)) (h2 : w.cell? ⟨l, 2, none⟩ = some (.bool false)) (h3 : w.cell? ⟨l, 3, none⟩ = some (.bool false)) (h4 : w.cell? ⟨l, 4, none⟩ = some (.bool false)) (h5 : w.cell? ⟨l, 5, none⟩ = some (.bool false)) (h6 : w.cell? ⟨l, 6, none⟩ = some (.bool false)) : Calls Try.prog 12 #[.agg #[.slice none 0 0, .slice none 0 0, .slice none 0 0, .slice none 0 0, .slice (some ⟨p, 0, none⟩) 1 1, .int .i64 (-1), .slice none 0 0]] w fun e w' => e = .returned (.tuple #[.int .i64 0, .int .i64 0, .int .i64 0]) ∧ Below w.heap.size w w' := by
  have hp := World.block_lt_of_cell? w _ g0
  have hl := World.block_lt_of_cell? w _ h0
  simp at hp hl
  go_enter Try.func12, Try.ntmps12
  go_wp2_with fail
  refine (tables_small _ (some ⟨p, 0, none⟩) _ (by simp [go_sem]) (by simp [go_sem]) (by simp [go_sem]) (by simp [go_sem]) (by simp [go_sem]) (by simp [go_sem]) (by simp [go_sem])).mono ?_
  rintro e w1 ⟨rfl, hb1⟩
  have hc1 := bcell hb1
  have hz1 := hb1.size
  simp at hz1
  have hz2 : w.heap.size < w1.heap.size := by omega
  have hB1 : Below w.heap.size w w1 := (((Below.refl _ _).alloc (Nat.le_refl _) _).alloc (by simp) _).trans (hb1.mono (by simp; omega))
  have hl1 : ∀ o, w1.cell? ⟨l, o, none⟩ = w.cell? ⟨l, o, none⟩ := fun o => hB1.cell hl
  have hp1 : ∀ o, w1.cell? ⟨p, o, none⟩ = w.cell? ⟨p, o, none⟩ := fun o => hB1.cell hp
  have hz3 : w.heap.size + 1 < w1.heap.size := by omega
  go_wp2
  refine wp_loop_rounds 2 ?_
  rw [rounds_succ]
  go_wp2_with fail
  refine (frame_1 _ _).mono ?_
  rintro e w2 ⟨rfl, hb2⟩
  have hc2 := bcell hb2
  have hz4 := hb2.size
  simp at hz4
  have hz6 : w1.heap.size < w2.heap.size := by omega
  have hB2 : Below w.heap.size w w2 := hB1.trans (((Below.refl _ _).alloc (by omega) _).trans (hb2.mono (by simp; omega)))
  have hl2 : ∀ o, w2.cell? ⟨l, o, none⟩ = w.cell? ⟨l, o, none⟩ := fun o => hB2.cell hl
  have hp2 : ∀ o, w2.cell? ⟨p, o, none⟩ = w.cell? ⟨p, o, none⟩ := fun o => hB2.cell hp
  go_wp2_with fail
  refine (graph_1 l 1 _ (by simp [go_sem, *]) (by simp [go_sem, *]) (by simp [go_sem, *]) (by simp [go_sem, *]) (by simp [go_sem, *]) (by simp [go_sem, *]) (by simp [go_sem, *])).mono ?_
  rintro e w3 ⟨rfl, hb3⟩
  have hc3 := bcell hb3
  have hz5 := hb3.size
  have hB3 : Below w.heap.size w w3 := hB2.trans (hb3.mono (by omega))
  have hl3 : ∀ o, w3.cell? ⟨l, o, none⟩ = w.cell? ⟨l, o, none⟩ := fun o => hB3.cell hl
  have hp3 : ∀ o, w3.cell? ⟨p, o, none⟩ = w.cell? ⟨p, o, none⟩ := fun o => hB3.cell hp
  have hz7 : w1.heap.size < w3.heap.size := by omega
  have hz8 : w.heap.size < w3.heap.size := by omega
  have hz9 : w.heap.size + 1 < w3.heap.size := by omega
  have hz10 : w.heap.size < w2.heap.size := by omega
  have hz11 : w.heap.size + 1 < w2.heap.size := by omega
  go_wp2
  rw [rounds_succ]
  go_wp2
  refine wp_loop_rounds 2 ?_
  rw [rounds_succ]
  go_wp2_with fail
  refine (proc_1 _ p l _ (by simp [go_sem, *]) (by simp [go_sem, *]) (by simp [go_sem, *]) (by simp [go_sem, *]) (by simp [go_sem, *]) (by simp [go_sem, *]) (by simp [go_sem, *]) (by simp [go_sem, *]) (by simp [go_sem, *]) (by simp [go_sem, *]) (by simp [go_sem, *]) (by simp [go_sem, *]) (by simp [go_sem, *]) (by simp [go_sem, *]) (by simp [go_sem, *]) (by simp [go_sem, *]) (by simp [go_sem, *]) (by simp [go_sem, *])).mono ?_
  rintro e w4 ⟨rfl, hb4⟩
  go_wp2
  rw [rounds_succ]
  go_wp2
  go_ret3
  exact ⟨rfl, hB3.trans (hb4.mono (by omega))⟩
end Go.Proofs.Ytblpajbacdbgpaa

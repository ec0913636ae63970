/-
  good.frame, good.graph and good.proc at the smallest model: what shown runs. No condition beyond the cells that they read.
-/
import Derived.Test.YtblpajbacdbgpaaC
namespace Go.Proofs.Ytblpajbacdbgpaa
open Go.ChangeShapes Go.WideShapes Go.ChangeAt Go.RowKit

abbrev procV (L : Value) (p : Int) : Value := .agg #[.string ByteArray.empty, .int .i64 0, .slice none 0 0, .slice none 0 0, L, .int .i64 0, .int .i64 0, .int .i64 0, .int .i64 p, .int .i64 (-1)]
set_option maxHeartbeats 1000000 in
set_option maxRecDepth 20000 in
theorem frame_1 (L : Value) (w : World) : Calls Try.prog 15 #[procV L 1] w fun e w' => e = .returned (.bool true) ∧ Below w.heap.size w w' := by
  go_enter Try.func15, Try.ntmps15
  go_wp2_with (go_at_call 19; refine (types_nil _).mono ?_; rintro e w1 ⟨rfl, rfl⟩)
  go_ret
  exact ⟨rfl, by go_grown⟩
set_option maxHeartbeats 1000000 in
set_option maxRecDepth 20000 in
theorem frame_0 (L : Value) (w : World) : Calls Try.prog 15 #[procV L 0] w fun e w' => e = .returned (.bool false) ∧ Below w.heap.size w w' := by
  go_enter Try.func15, Try.ntmps15
  go_wp2_with (go_at_call 19; refine (types_nil _).mono ?_; rintro e w1 ⟨rfl, rfl⟩)
  go_ret
  exact ⟨rfl, by go_grown⟩
set_option maxHeartbeats 1000000 in
set_option maxRecDepth 20000 in
theorem graph_1 (l : Nat) (p : Int) (w : World) (h0 : w.cell? ⟨l, 0, none⟩ = some (.slice none 0 0)) (h1 : w.cell? ⟨l, 1, none⟩ = some (.slice none 0 0)) (h2 : w.cell? ⟨l, 2, none⟩ = some (.bool false)) (h3 : w.cell? ⟨l, 3, none⟩ = some (.bool false)) (h4 : w.cell? ⟨l, 4, none⟩ = some (.bool false)) (h5 : w.cell? ⟨l, 5, none⟩ = some (.bool false)) (h6 : w.cell? ⟨l, 6, none⟩ = some (.bool false)) :
    Calls Try.prog 16 #[procV (.slice (some ⟨l, 0, none⟩) 1 1) p] w fun e w' => e = .returned (.bool true) ∧ Below w.heap.size w w' := by
  have hb := World.block_lt_of_cell? w _ h0
  simp at hb
  go_enter Try.func16, Try.ntmps16
  go_wp2
  refine wp_loop_rounds 2 ?_
  rw [rounds_succ]
  go_wp2_with fail
  refine (ways_nil _ _ _ _ _ _).mono ?_
  rintro e w1 ⟨wb, rfl, hw1, hb1⟩
  go_wp2
  refine wp_loop_rounds 2 ?_
  rw [rounds_succ]
  go_wp2
  refine wp_loop_rounds 1 ?_
  rw [rounds_succ]
  go_wp2
  rw [rounds_succ]
  go_wp2
  rw [rounds_succ]
  go_wp2
  go_ret
  exact ⟨rfl, (((Below.refl _ _).alloc (Nat.le_refl _) _).alloc (by simp) _).trans (hb1.mono (by simp; omega))⟩
set_option maxHeartbeats 1000000 in
set_option maxRecDepth 20000 in
theorem proc_1 (b p l : Nat) (w : World) (h4 : w.cell? ⟨b, 4, none⟩ = some (.slice (some ⟨p, 0, none⟩) 1 1)) (g0 : w.cell? ⟨p, 0, none⟩ = some (.string ByteArray.empty)) (g1 : w.cell? ⟨p, 1, none⟩ = some (.int .i64 0)) (g2 : w.cell? ⟨p, 2, none⟩ = some (.slice none 0 0)) (g3 : w.cell? ⟨p, 3, none⟩ = some (.slice none 0 0)) (g4 : w.cell? ⟨p, 4, none⟩ = some (.slice (some ⟨l, 0, none⟩) 1 1)) (g5 : w.cell? ⟨p, 5, none⟩ = some (.int .i64 0)) (g6 : w.cell? ⟨p, 6, none⟩ = some (.int .i64 0)) (g7 : w.cell? ⟨p, 7, none⟩ = some (.int .i64 0)) (g8 : w.cell? ⟨p, 8, none⟩ = some (.int .i64 1)) (g9 : w.cell? ⟨p, 9, none⟩ = some (.int .i64 (-1)))
   (h0 : w.cell? ⟨l, 0, none⟩ = some (.slice none 0 0)) (h1 : w.cell? ⟨l, 1, none⟩ = some (.slice none 0 0)) (h2 : w.cell? ⟨l, 2, none⟩ = some (.bool false)) (h3 : w.cell? ⟨l, 3, none⟩ = some (.bool false)) (h4' : w.cell? ⟨l, 4, none⟩ = some (.bool false)) (h5 : w.cell? ⟨l, 5, none⟩ = some (.bool false)) (h6 : w.cell? ⟨l, 6, none⟩ = some (.bool false)) :
    Calls Try.prog 18 #[.pointer (some ⟨b, 0, none⟩), .int .i64 0] w fun e w' => e = .returned (.bool true) ∧ Below w.heap.size w w' := by
  have hb := World.block_lt_of_cell? w _ h0
  have hp := World.block_lt_of_cell? w _ g0
  have hq := World.block_lt_of_cell? w _ h4
  simp at hb hp hq
  go_enter Try.func18, Try.ntmps18
  go_wp2
  refine wp_loop_rounds 2 ?_
  rw [rounds_succ]
  go_wp2_with fail
  refine (ways_nil _ _ _ _ _ _).mono ?_
  rintro e w1 ⟨wb, rfl, hw1, hb1⟩
  have hc1 := bcell hb1
  have hz1 := hb1.size
  simp at hz1
  have hz2 : w.heap.size < w1.heap.size := by omega
  go_wp2
  refine wp_loop_rounds 2 ?_
  rw [rounds_succ]
  go_wp2
  refine wp_loop_rounds 1 ?_
  rw [rounds_succ]
  go_wp2
  rw [rounds_succ]
  go_wp2
  rw [rounds_succ]
  go_wp2
  go_ret
  exact ⟨rfl, (((Below.refl _ _).alloc (Nat.le_refl _) _).alloc (by simp) _).trans (hb1.mono (by simp; omega))⟩
end Go.Proofs.Ytblpajbacdbgpaa

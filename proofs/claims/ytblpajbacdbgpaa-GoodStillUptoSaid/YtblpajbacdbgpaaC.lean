/-
  good.tables and good.ways at the empty and at the smallest model: what shown runs. No condition beyond the cells that they read.
-/
import Derived.Test.YtblpajbacdbgpaaB
import Derived.Handy
namespace Go.Proofs.Ytblpajbacdbgpaa
open Go.ChangeShapes Go.WideShapes Go.ChangeAt Go.RowKit

set_option maxHeartbeats 1000000 in
theorem types_nil (w : World) : Calls Try.prog 19 #[.slice none 0 0, .slice none 0 0] w fun e w' => e = .returned (.int .i64 (-1)) ∧ w = w' := by
  go_enter Try.func19, Try.ntmps19
  go_wp2
  go_rounds 1
  go_ret
  exact ⟨rfl, rfl⟩
set_option maxHeartbeats 1000000 in
set_option maxRecDepth 20000 in
theorem tables_empty (b : Nat) (w : World) (h0 : w.cell? ⟨b, 0, none⟩ = some (.slice none 0 0)) (h1 : w.cell? ⟨b, 1, none⟩ = some (.slice none 0 0)) (h2 : w.cell? ⟨b, 2, none⟩ = some (.slice none 0 0)) (h3 : w.cell? ⟨b, 3, none⟩ = some (.slice none 0 0)) (h4 : w.cell? ⟨b, 4, none⟩ = some (.slice none 0 0)) (h5 : w.cell? ⟨b, 5, none⟩ = some (.int .i64 0)) (h6 : w.cell? ⟨b, 6, none⟩ = some (.slice none 0 0)) :
    Calls Try.prog 14 #[.pointer (some ⟨b, 0, none⟩)] w fun e w' => e = .returned (.tuple #[.int .i64 3, .int .i64 (-1)]) ∧ Below w.heap.size w w' := by
  have hb := World.block_lt_of_cell? w _ h0
  simp at hb
  go_enter Try.func14, Try.ntmps14
  go_wp2_with (go_at_call 19; refine (types_nil _).mono ?_; rintro e w1 ⟨rfl, rfl⟩)
  go_rounds 1
  go_rounds 1
  go_ret2
  exact ⟨rfl, by go_grown⟩
set_option maxHeartbeats 1000000 in
set_option maxRecDepth 20000 in
theorem tables_small (b : Nat) (A : Option Addr) (w : World) (h0 : w.cell? ⟨b, 0, none⟩ = some (.slice none 0 0)) (h1 : w.cell? ⟨b, 1, none⟩ = some (.slice none 0 0)) (h2 : w.cell? ⟨b, 2, none⟩ = some (.slice none 0 0)) (h3 : w.cell? ⟨b, 3, none⟩ = some (.slice none 0 0)) (h4 : w.cell? ⟨b, 4, none⟩ = some (.slice A 1 1)) (h5 : w.cell? ⟨b, 5, none⟩ = some (.int .i64 (-1))) (h6 : w.cell? ⟨b, 6, none⟩ = some (.slice none 0 0)) :
    Calls Try.prog 14 #[.pointer (some ⟨b, 0, none⟩)] w fun e w' => e = .returned (.tuple #[.int .i64 0, .int .i64 0]) ∧ Below w.heap.size w w' := by
  have hb := World.block_lt_of_cell? w _ h0
  simp at hb
  have hmk : ∀ W : World, (Instr.makeSlice 65 (.int .i64 0) (.int .i64 0)).run Try.prog W = .ok (.slice (some ⟨W.heap.size, 0, none⟩) 0 0) (W.alloc (.cells #[] 4)) := fun _ => by kernel_rfl
  go_enter Try.func14, Try.ntmps14
  go_wp2_with (go_at_call 19; refine (types_nil _).mono ?_; rintro e w1 ⟨rfl, rfl⟩)
  go_rounds 1
  go_rounds 1
  go_rounds 1
  go_ret2
  exact ⟨rfl, by go_grown⟩
theorem ways_nil (w : World) (b1 b2 b3 b4 b5 : Bool) : Calls Try.prog 23 #[.agg #[.slice none 0 0, .slice none 0 0, .bool b1, .bool b2, .bool b3, .bool b4, .bool b5]] w fun e w' => ∃ b, e = .returned (.slice (some ⟨b, 0, none⟩) 1 1) ∧ w'.cell? ⟨b, 0, none⟩ = some (.slice none 0 0) ∧ Below w.heap.size w w' := by
  go_enter Try.func23, Try.ntmps23
  go_wp2
  go_ret
  exact ⟨_, rfl, by simp [go_sem], by go_grown⟩
end Go.Proofs.Ytblpajbacdbgpaa

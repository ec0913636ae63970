/-
  A row of ten cells, written anew.
-/
import Derived.Test.YtioacgjggogflabL0
namespace Go.Proofs.Ytioacgjggogflab
open Go.ChangeShapes Go.WideShapes Go.ChangeAt Go.RowKit Go.Deep Go.Joins Go.Instr
theorem drew_heap (w : World) : w.drew.heap = w.heap := rfl
theorem heap_new_drew (w : World) (o : Obj) : (w.alloc o).drew.heap[w.heap.size]? = some o := by rw [drew_heap]; exact heap_new' w o
theorem size_new_drew (w : World) (o : Obj) : (w.alloc o).drew.heap.size = w.heap.size + 1 := by rw [drew_heap]; simp
theorem heap_new_drew2 (w : World) (o : Obj) : (w.alloc o).drew.drew.heap[w.heap.size]? = some o := by rw [drew_heap, drew_heap]; exact heap_new' w o
theorem size_new_drew2 (w : World) (o : Obj) : (w.alloc o).drew.drew.heap.size = w.heap.size + 1 := by rw [drew_heap, drew_heap]; simp
theorem heap_two_drew (w : World) (o1 o2 : Obj) : ((w.alloc o1).alloc o2).drew.heap[w.heap.size]? = some o1 ∧ ((w.alloc o1).alloc o2).drew.heap[w.heap.size + 1]? = some o2 ∧ ((w.alloc o1).alloc o2).drew.heap.size = w.heap.size + 2 := by
  rw [drew_heap]
  exact ⟨(Below.heap_alloc _ _ _ (by simp)).trans (heap_new' _ _), heap_new_at _ _ _ (by simp), by simp⟩
theorem heap_ten (w : World) (b : Nat) (c0 c1 c2 c3 c4 c5 c6 c7 c8 c9 : Value) (h0 : w.heap[b]? = some (.cells #[c0, c1, c2, c3, c4, c5, c6, c7, c8, c9] 26 (0, 0))) (v0 v1 v2 v3 v4 v5 v6 v7 v8 v9 : Value) :
    ((((((((((w.setCell ⟨b, 0, none⟩ v0).setCell ⟨b, 1, none⟩ v1).setCell ⟨b, 2, none⟩ v2).setCell ⟨b, 3, none⟩ v3).setCell ⟨b, 4, none⟩ v4).setCell ⟨b, 5, none⟩ v5).setCell ⟨b, 6, none⟩ v6).setCell ⟨b, 7, none⟩ v7).setCell ⟨b, 8, none⟩ v8).setCell ⟨b, 9, none⟩ v9).heap[b]? = some (.cells #[v0, v1, v2, v3, v4, v5, v6, v7, v8, v9] 26 (0, 0)) := by
  have h1 : (w.setCell ⟨b, 0, none⟩ v0).heap[b]? = some (.cells #[v0, c1, c2, c3, c4, c5, c6, c7, c8, c9] 26 (0, 0)) := heap_setCell_same _ b 0 _ 26 v0 h0
  have h2 : ((w.setCell ⟨b, 0, none⟩ v0).setCell ⟨b, 1, none⟩ v1).heap[b]? = some (.cells #[v0, v1, c2, c3, c4, c5, c6, c7, c8, c9] 26 (0, 0)) := heap_setCell_same _ b 1 _ 26 v1 h1
  have h3 : (((w.setCell ⟨b, 0, none⟩ v0).setCell ⟨b, 1, none⟩ v1).setCell ⟨b, 2, none⟩ v2).heap[b]? = some (.cells #[v0, v1, v2, c3, c4, c5, c6, c7, c8, c9] 26 (0, 0)) := heap_setCell_same _ b 2 _ 26 v2 h2
  have h4 : ((((w.setCell ⟨b, 0, none⟩ v0).setCell ⟨b, 1, none⟩ v1).setCell ⟨b, 2, none⟩ v2).setCell ⟨b, 3, none⟩ v3).heap[b]? = some (.cells #[v0, v1, v2, v3, c4, c5, c6, c7, c8, c9] 26 (0, 0)) := heap_setCell_same _ b 3 _ 26 v3 h3
  have h5 : (((((w.setCell ⟨b, 0, none⟩ v0).setCell ⟨b, 1, none⟩ v1).setCell ⟨b, 2, none⟩ v2).setCell ⟨b, 3, none⟩ v3).setCell ⟨b, 4, none⟩ v4).heap[b]? = some (.cells #[v0, v1, v2, v3, v4, c5, c6, c7, c8, c9] 26 (0, 0)) := heap_setCell_same _ b 4 _ 26 v4 h4
  have h6 : ((((((w.setCell ⟨b, 0, none⟩ v0).setCell ⟨b, 1, none⟩ v1).setCell ⟨b, 2, none⟩ v2).setCell ⟨b, 3, none⟩ v3).setCell ⟨b, 4, none⟩ v4).setCell ⟨b, 5, none⟩ v5).heap[b]? = some (.cells #[v0, v1, v2, v3, v4, v5, c6, c7, c8, c9] 26 (0, 0)) := heap_setCell_same _ b 5 _ 26 v5 h5
  have h7 : (((((((w.setCell ⟨b, 0, none⟩ v0).setCell ⟨b, 1, none⟩ v1).setCell ⟨b, 2, none⟩ v2).setCell ⟨b, 3, none⟩ v3).setCell ⟨b, 4, none⟩ v4).setCell ⟨b, 5, none⟩ v5).setCell ⟨b, 6, none⟩ v6).heap[b]? = some (.cells #[v0, v1, v2, v3, v4, v5, v6, c7, c8, c9] 26 (0, 0)) := heap_setCell_same _ b 6 _ 26 v6 h6
  have h8 : ((((((((w.setCell ⟨b, 0, none⟩ v0).setCell ⟨b, 1, none⟩ v1).setCell ⟨b, 2, none⟩ v2).setCell ⟨b, 3, none⟩ v3).setCell ⟨b, 4, none⟩ v4).setCell ⟨b, 5, none⟩ v5).setCell ⟨b, 6, none⟩ v6).setCell ⟨b, 7, none⟩ v7).heap[b]? = some (.cells #[v0, v1, v2, v3, v4, v5, v6, v7, c8, c9] 26 (0, 0)) := heap_setCell_same _ b 7 _ 26 v7 h7
  have h9 : (((((((((w.setCell ⟨b, 0, none⟩ v0).setCell ⟨b, 1, none⟩ v1).setCell ⟨b, 2, none⟩ v2).setCell ⟨b, 3, none⟩ v3).setCell ⟨b, 4, none⟩ v4).setCell ⟨b, 5, none⟩ v5).setCell ⟨b, 6, none⟩ v6).setCell ⟨b, 7, none⟩ v7).setCell ⟨b, 8, none⟩ v8).heap[b]? = some (.cells #[v0, v1, v2, v3, v4, v5, v6, v7, v8, c9] 26 (0, 0)) := heap_setCell_same _ b 8 _ 26 v8 h8
  have h10 : ((((((((((w.setCell ⟨b, 0, none⟩ v0).setCell ⟨b, 1, none⟩ v1).setCell ⟨b, 2, none⟩ v2).setCell ⟨b, 3, none⟩ v3).setCell ⟨b, 4, none⟩ v4).setCell ⟨b, 5, none⟩ v5).setCell ⟨b, 6, none⟩ v6).setCell ⟨b, 7, none⟩ v7).setCell ⟨b, 8, none⟩ v8).setCell ⟨b, 9, none⟩ v9).heap[b]? = some (.cells #[v0, v1, v2, v3, v4, v5, v6, v7, v8, v9] 26 (0, 0)) := heap_setCell_same _ b 9 _ 26 v9 h9
  exact h10
theorem heap_ten_drew (w : World) (b : Nat) (c0 c1 c2 c3 c4 c5 c6 c7 c8 c9 : Value) (h0 : w.heap[b]? = some (.cells #[c0, c1, c2, c3, c4, c5, c6, c7, c8, c9] 26 (0, 0))) (v0 v1 v2 v3 v4 v5 v6 v7 v8 v9 : Value) :
    ((((((((((w.setCell ⟨b, 0, none⟩ v0).setCell ⟨b, 1, none⟩ v1).setCell ⟨b, 2, none⟩ v2).setCell ⟨b, 3, none⟩ v3).setCell ⟨b, 4, none⟩ v4).setCell ⟨b, 5, none⟩ v5).setCell ⟨b, 6, none⟩ v6).setCell ⟨b, 7, none⟩ v7).setCell ⟨b, 8, none⟩ v8).setCell ⟨b, 9, none⟩ v9).drew.heap[b]? = some (.cells #[v0, v1, v2, v3, v4, v5, v6, v7, v8, v9] 26 (0, 0)) := by
  have e : ∀ u : World, u.drew.heap = u.heap := fun _ => rfl
  rw [e]
  exact heap_ten w b c0 c1 c2 c3 c4 c5 c6 c7 c8 c9 h0 v0 v1 v2 v3 v4 v5 v6 v7 v8 v9
theorem outs_ten (w : World) (b : Nat) (v0 v1 v2 v3 v4 v5 v6 v7 v8 v9 : Value) : OutsP (fun k => k = b) w ((((((((((w.setCell ⟨b, 0, none⟩ v0).setCell ⟨b, 1, none⟩ v1).setCell ⟨b, 2, none⟩ v2).setCell ⟨b, 3, none⟩ v3).setCell ⟨b, 4, none⟩ v4).setCell ⟨b, 5, none⟩ v5).setCell ⟨b, 6, none⟩ v6).setCell ⟨b, 7, none⟩ v7).setCell ⟨b, 8, none⟩ v8).setCell ⟨b, 9, none⟩ v9) := by
  have o0 := OutsP.refl (fun k => k = b) w
  have o1 := OutsP.setCell (p := ⟨b, 0, none⟩) o0 (Or.inl rfl) v0
  have o2 := OutsP.setCell (p := ⟨b, 1, none⟩) o1 (Or.inl rfl) v1
  have o3 := OutsP.setCell (p := ⟨b, 2, none⟩) o2 (Or.inl rfl) v2
  have o4 := OutsP.setCell (p := ⟨b, 3, none⟩) o3 (Or.inl rfl) v3
  have o5 := OutsP.setCell (p := ⟨b, 4, none⟩) o4 (Or.inl rfl) v4
  have o6 := OutsP.setCell (p := ⟨b, 5, none⟩) o5 (Or.inl rfl) v5
  have o7 := OutsP.setCell (p := ⟨b, 6, none⟩) o6 (Or.inl rfl) v6
  have o8 := OutsP.setCell (p := ⟨b, 7, none⟩) o7 (Or.inl rfl) v7
  have o9 := OutsP.setCell (p := ⟨b, 8, none⟩) o8 (Or.inl rfl) v8
  have o10 := OutsP.setCell (p := ⟨b, 9, none⟩) o9 (Or.inl rfl) v9
  exact o10
theorem outs_ten_drew (w : World) (b : Nat) (v0 v1 v2 v3 v4 v5 v6 v7 v8 v9 : Value) : OutsP (fun k => k = b) w ((((((((((w.setCell ⟨b, 0, none⟩ v0).setCell ⟨b, 1, none⟩ v1).setCell ⟨b, 2, none⟩ v2).setCell ⟨b, 3, none⟩ v3).setCell ⟨b, 4, none⟩ v4).setCell ⟨b, 5, none⟩ v5).setCell ⟨b, 6, none⟩ v6).setCell ⟨b, 7, none⟩ v7).setCell ⟨b, 8, none⟩ v8).setCell ⟨b, 9, none⟩ v9).drew := (outs_ten w b v0 v1 v2 v3 v4 v5 v6 v7 v8 v9).drew
theorem getD_map {α β : Type} [Inhabited α] [Inhabited β] (l : List α) (f : α → β) (q : Nat) (h : q < l.length) : (l.map f).getD q default = f (l.getD q default) := by
  simp [List.getD_eq_getElem?_getD, List.getElem?_eq_getElem h]
end Go.Proofs.Ytioacgjggogflab

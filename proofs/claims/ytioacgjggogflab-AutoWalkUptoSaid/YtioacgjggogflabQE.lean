/-
  An append whose rest is hidden from the walk.
-/
import Derived.Test.YtioacgjggogflabL0
namespace Go.Proofs.Ytioacgjggogflab
open Go.ChangeShapes Go.WideShapes Go.ChangeAt Go.RowKit Go.Deep Go.Joins Go.Instr
theorem wpList_pushH {α : Type} {T E sz : Nat} (hT : ElT T E sz) {w : World} {ops : Array Oper} {rest : List Oper} {o : Oper} {a : Act} {Q : Exit → Act → World → Prop} (hgd : o.guard = none) (s x : Operand)
    (ho : o.op = .call { callee := .builtin .append, args := #[s, x], argTypes := #[T, T] })
    (base : Nat) (enc : α → Nat → Value) (v : Value) (l : List α) (hs : a.eval s = v) (hown : Ow w base E sz enc v l)
    (b0 : Nat) (y : α) (cs : Array Value) (hx : a.eval x = .slice (some ⟨b0, 0, none⟩) 1 1) (hb : w.heap[b0]? = some (.cells cs E (0, 0))) (hcs : Hid (cs.toList = (List.range sz).map (enc y))) (h1 : Hid (∀ u ∈ cs.toList, u.oneCell' = true))
    (h63 : l.length + 1 ≤ 1000000000) (hbase : base ≤ w.heap.size)
    (h : Hid (∀ g cap w', Ow w' base E sz enc (.slice (some ⟨g, 0, none⟩) (l.length + 1) cap) (l ++ [y]) → w.grownBy w' v.ownBlock → (v.ownBlock = some g ∨ g = w.heap.size) → wpList Try.prog ops Q rest (a.put o.dst (.slice (some ⟨g, 0, none⟩) (l.length + 1) cap)) w')) : wpList Try.prog ops Q (o :: rest) a w :=
  wpList_push hT hgd s x ho base enc v l hs hown b0 y cs hx hb hcs.out h1.out h63 hbase h.out
end Go.Proofs.Ytioacgjggogflab

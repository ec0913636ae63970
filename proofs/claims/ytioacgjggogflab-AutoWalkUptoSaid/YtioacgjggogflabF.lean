/-
  Rows of the call's own, of whatever elements; worlds in which some blocks turn.
-/
import Derived.Test.YtioacgjggogflabE
import Derived.Deep.AppendLies
import Derived.Deep.RegionWith
import Derived.Laws.AppendOwnNone
import Derived.OwnWalk
import Derived.WalkSpells
namespace Go.Proofs.Ytioacgjggogflab
open Go.ChangeShapes Go.WideShapes Go.ChangeAt Go.RowKit Go.Deep Go.Joins Go.Instr
theorem lt_of_block {w : World} {k : Nat} {o : Obj} (h : w.heap[k]? = some o) : k < w.heap.size := (Array.getElem?_eq_some_iff.1 h).1
/-- Nothing but the blocks of S has turned. -/
structure OutsP (S : Nat → Prop) (w w' : World) : Prop where
  os : w'.os = w.os
  tape : w'.tape = w.tape
  output : w'.output = w.output
  size : w.heap.size ≤ w'.heap.size
  block : ∀ k, k < w.heap.size → ¬ S k → w'.heap[k]? = w.heap[k]?
theorem OutsP.of_below {S : Nat → Prop} {w w' : World} (h : Below w.heap.size w w') : OutsP S w w' := ⟨h.os, h.tape, h.output, h.size, fun k hk _ => h.block k hk⟩
theorem OutsP.refl (S : Nat → Prop) (w : World) : OutsP S w w := OutsP.of_below (Below.refl _ _)
theorem OutsP.drew {S : Nat → Prop} {w w' : World} (h : OutsP S w w') : OutsP S w w'.drew := ⟨h.os, h.tape, h.output, h.size, h.block⟩
theorem OutsP.alloc {S : Nat → Prop} {w w' : World} (h : OutsP S w w') (o : Obj) : OutsP S w (w'.alloc o) :=
  ⟨h.os, h.tape, h.output, by have := h.size; simp; omega, fun k hk h1 => (Below.heap_alloc _ _ _ (by have := h.size; omega)).trans (h.block k hk h1)⟩
theorem OutsP.grown {S : Nat → Prop} {w w' w'' : World} {row : Option Nat} (h : OutsP S w w') (hg : w'.grownBy w'' row) (hr : ∀ k, row = some k → S k ∨ w.heap.size ≤ k) : OutsP S w w'' :=
  ⟨hg.os.trans h.os, hg.tape.trans h.tape, hg.output.trans h.output, Nat.le_trans h.size hg.size, fun k hk h1 => (hg.block k (by have := h.size; omega) (fun e => by
    rcases hr k e.symm with h3 | h3
    · exact h1 h3
    · omega)).trans (h.block k hk h1)⟩
theorem OutsP.setCell {S : Nat → Prop} {w w' : World} (h : OutsP S w w') {p : Addr} (hp : S p.block ∨ w.heap.size ≤ p.block) (u : Value) : OutsP S w (w'.setCell p u) :=
  ⟨h.os, h.tape, h.output, by have := h.size; simpa [World.setCell] using this, fun k hk h1 => (Below.heap_setCell _ _ _ _ (fun e => by
    subst e
    rcases hp with h3 | h3
    · exact h1 h3
    · omega)).trans (h.block k hk h1)⟩
theorem OutsP.trans {S S' : Nat → Prop} {a b c : World} (h : OutsP S a b) (k : OutsP S' b c) (hr : ∀ x, S' x → S x ∨ a.heap.size ≤ x) : OutsP S a c :=
  ⟨k.os.trans h.os, k.tape.trans h.tape, k.output.trans h.output, Nat.le_trans h.size k.size, fun i hi h1 => (k.block i (by have := h.size; omega) (fun e => by
    rcases hr i e with h3 | h3
    · exact h1 h3
    · omega)).trans (h.block i hi h1)⟩
theorem OutsP.mono {S S' : Nat → Prop} {a b : World} (h : OutsP S a b) (hr : ∀ x, S x → S' x ∨ a.heap.size ≤ x) : OutsP S' a b :=
  ⟨h.os, h.tape, h.output, h.size, fun i hi h1 => h.block i hi (fun e => by
    rcases hr i e with h3 | h3
    · exact h1 h3
    · omega)⟩
theorem OutsP.below {S : Nat → Prop} {w w' : World} {B : Nat} (h : OutsP S w w') (hb : B ≤ w.heap.size) (h1 : ∀ k, S k → B ≤ k) : Below B w w' :=
  ⟨h.os, h.tape, h.output, h.size, fun k hk => h.block k (by omega) (fun e => by have := h1 k e; omega)⟩
theorem OutsP.grownBy {S : Nat → Prop} {w w' : World} {row : Option Nat} (h : OutsP S w w') (hr : ∀ k, S k → row = some k ∨ w.heap.size ≤ k) : w.grownBy w' row :=
  ⟨h.os, h.tape, h.output, h.size, fun k hk h1 => h.block k hk (fun e => by
    rcases hr k e with h3 | h3
    · exact h1 h3.symm
    · omega)⟩
/-- A row of the call's own that lies in no block that turns. -/
theorem own_outs {S : Nat → Prop} {w w' : World} {base : Nat} {e : TypeId} {v : Value} {n size : Nat} {xs : List Value} (h : w.ownsRow base e size v n xs) (hb : OutsP S w w') (hv : ∀ g, v.ownBlock = some g → ¬ S g) : w'.ownsRow base e size v n xs := by
  obtain ⟨h1, h2⟩ := h
  refine ⟨h1, ?_⟩
  rcases h2 with h2 | ⟨g, cap, cur, hv', hg, hh, r⟩
  · exact Or.inl h2
  · refine Or.inr ⟨g, cap, cur, hv', hg, ?_, r⟩
    rw [hb.block g (lt_of_block hh) (hv g (by rw [hv']; rfl))]
    exact hh
/-- What doing comes to: tokens, so many uses more, and nothing else. -/

theorem own_below {w w' : World} {base : Nat} {e : TypeId} {v : Value} {n size : Nat} {xs : List Value} (h : w.ownsRow base e size v n xs) (hb : Below w.heap.size w w') : w'.ownsRow base e size v n xs :=
  h.kept (row := none) ⟨hb.os, hb.tape, hb.output, hb.size, fun k hk _ => hb.block k hk⟩ (by cases v.ownBlock <;> simp)
theorem own_base {w : World} {base base' : Nat} {e : TypeId} {v : Value} {n size : Nat} {xs : List Value} (h : w.ownsRow base e size v n xs) (hb : base' ≤ base) : w.ownsRow base' e size v n xs := by
  obtain ⟨h1, h2⟩ := h
  refine ⟨h1, ?_⟩
  rcases h2 with h2 | ⟨g, cap, cur, hv, hg, r⟩
  · exact Or.inl h2
  · exact Or.inr ⟨g, cap, cur, hv, by omega, r⟩
theorem own_slice {w : World} {base : Nat} {e : TypeId} {v : Value} {n size : Nat} {xs : List Value} (h : w.ownsRow base e size v n xs) : ∃ a c, v = .slice a n c := by
  rcases h.2 with ⟨rfl, h0⟩ | ⟨g, cap, cur, rfl, _⟩
  · have : n = 0 := by omega
    subst this
    exact ⟨_, _, rfl⟩
  · exact ⟨_, _, rfl⟩
theorem heap_new' (w : World) (o : Obj) : (w.alloc o).heap[w.heap.size]? = some o := by show (w.heap.push o)[w.heap.size]? = _; simp
/-- The cells of a list, so many for each element. -/
def fle {α : Type} (sz : Nat) (enc : α → Nat → Value) (l : List α) : List Value := l.flatMap fun x => (List.range sz).map (enc x)
theorem fle_len {α : Type} (sz : Nat) (enc : α → Nat → Value) (l : List α) : (fle sz enc l).length = l.length * sz := by
  induction l with
  | nil => simp [fle]
  | cons x l ih => simp only [fle, List.flatMap_cons, List.length_append, List.length_map, List.length_range, List.length_cons] at ih ⊢; rw [ih, Nat.add_mul, Nat.one_mul, Nat.add_comm]
theorem fle_app {α : Type} (sz : Nat) (enc : α → Nat → Value) (a b : List α) : fle sz enc (a ++ b) = fle sz enc a ++ fle sz enc b := by simp [fle]
theorem fle_one {α : Type} (sz : Nat) (enc : α → Nat → Value) (x : α) : fle sz enc [x] = (List.range sz).map (enc x) := by simp [fle]
theorem fle_at {α : Type} [Inhabited α] (sz : Nat) (enc : α → Nat → Value) : ∀ (l : List α) (i j : Nat), i < l.length → j < sz → (fle sz enc l)[i * sz + j]? = some (enc (l.getD i default) j)
  | [], i, j, hi, _ => absurd hi (by simp)
  | x :: l, 0, j, _, hj => by
    have : ((List.range sz).map (enc x)).length = sz := by simp
    simp only [fle, List.flatMap_cons, Nat.zero_mul, Nat.zero_add]
    rw [List.getElem?_append_left (by rw [this]; exact hj)]
    simp [hj]
  | x :: l, i + 1, j, hi, hj => by
    have h1 : ((List.range sz).map (enc x)).length = sz := by simp
    have := fle_at sz enc l i j (by simpa using hi) hj
    simp only [fle, List.flatMap_cons] at this ⊢
    rw [List.getElem?_append_right (by rw [h1, Nat.add_mul]; omega), h1, show (i + 1) * sz + j - sz = i * sz + j by rw [Nat.add_mul]; omega, this]
    rfl
/-- A row of the call's own that holds a list. -/
def Ow {α : Type} (w : World) (base E sz : Nat) (enc : α → Nat → Value) (v : Value) (l : List α) : Prop := w.ownsRow base E sz v l.length (fle sz enc l)
theorem ow_nil {α : Type} (w : World) (base E sz : Nat) (enc : α → Nat → Value) : Ow w base E sz enc (.slice none 0 0) [] := World.ownsRow_nil _ _ _ _
theorem sl_of_ow {α : Type} [Inhabited α] {w : World} {base E sz : Nat} {enc : α → Nat → Value} {v : Value} {l : List α} (h : Ow w base E sz enc v l) : Sl w sz enc v l := by
  rcases h.2 with ⟨rfl, h0⟩ | ⟨g, cap, cur, rfl, _, hh, h1, h2, h3, h4⟩
  · have : l = [] := List.length_eq_zero_iff.1 h0
    subst this
    exact ⟨none, 0, rfl, Nat.le_refl _, by decide, fun h => absurd h (by simp)⟩
  · refine ⟨some ⟨g, 0, none⟩, cap, rfl, h1, h2, fun _ => ⟨g, 0, rfl, lt_of_block hh, fun i hi j hj => ?_⟩⟩
    rw [Nat.zero_add, cell_of_row w g _ _ _ _ hh]
    have h5 := fle_at sz enc l i j hi hj
    rw [← h4, List.getElem?_take] at h5
    split at h5
    · simpa using h5
    · simp at h5
theorem Ow.slice {α : Type} {w : World} {base E sz : Nat} {enc : α → Nat → Value} {v : Value} {l : List α} (h : Ow w base E sz enc v l) : ∃ a c, v = .slice a l.length c := own_slice h
/-- A slice type's element. -/
structure ElT (T E sz : Nat) : Prop where
  und : Try.prog.underlying T = some (.slice E)
  ex : ∃ i z, Try.prog.info? E = some i ∧ i.zero = some z ∧ i.size = sz ∧ z.cells.size = sz ∧ i.bytes ≤ 1000
  pos : 0 < sz
theorem elt_of {T E sz : Nat} (h1 : Try.prog.underlying T = some (.slice E)) (h2 : (Try.prog.info? E).map (fun i => (i.zero.map (fun z => z.cells.size), i.size, decide (i.bytes ≤ 1000))) = some (some sz, sz, true)) (h3 : 0 < sz) : ElT T E sz := by
  refine ⟨h1, ?_, h3⟩
  cases h : Try.prog.info? E with
  | none => rw [h] at h2; simp at h2
  | some i =>
    rw [h] at h2
    simp only [Option.map_some, Option.some.injEq, Prod.mk.injEq, decide_eq_true_eq] at h2
    obtain ⟨a, b, c⟩ := h2
    cases hz : i.zero with
    | none => rw [hz] at a; simp at a
    | some z =>
      rw [hz] at a
      simp at a
      exact ⟨i, z, rfl, hz, b, a, c⟩
theorem elt27 : ElT 27 3 1 := elt_of Try.underlying27 (by kernel_rfl) (by decide)
theorem elt33 : ElT 33 40 9 := elt_of Try.underlying33 (by kernel_rfl) (by decide)
theorem elt34 : ElT 34 33 1 := elt_of Try.underlying34 (by kernel_rfl) (by decide)
theorem elt24 : ElT 24 36 7 := elt_of Try.underlying24 (by kernel_rfl) (by decide)
/-- append of one element to a row of the call's own, in a plain region. -/
theorem wpList_push {α : Type} {T E sz : Nat} (hT : ElT T E sz) {w : World} {ops : Array Oper} {rest : List Oper} {o : Oper} {a : Act} {Q : Exit → Act → World → Prop} (hgd : o.guard = none) (s x : Operand)
    (ho : o.op = .call { callee := .builtin .append, args := #[s, x], argTypes := #[T, T] })
    (base : Nat) (enc : α → Nat → Value) (v : Value) (l : List α) (hs : a.eval s = v) (hown : Ow w base E sz enc v l)
    (b0 : Nat) (y : α) (cs : Array Value) (hx : a.eval x = .slice (some ⟨b0, 0, none⟩) 1 1) (hb : w.heap[b0]? = some (.cells cs E (0, 0))) (hcs : cs.toList = (List.range sz).map (enc y)) (h1 : ∀ u ∈ cs.toList, u.oneCell' = true)
    (h63 : l.length + 1 ≤ 1000000000) (hbase : base ≤ w.heap.size)
    (h : ∀ g cap w', Ow w' base E sz enc (.slice (some ⟨g, 0, none⟩) (l.length + 1) cap) (l ++ [y]) → w.grownBy w' v.ownBlock → (v.ownBlock = some g ∨ g = w.heap.size) → wpList Try.prog ops Q rest (a.put o.dst (.slice (some ⟨g, 0, none⟩) (l.length + 1) cap)) w') : wpList Try.prog ops Q (o :: rest) a w := by
  obtain ⟨i, z, hi, hz, hs1, hz2, hby⟩ := hT.ex
  refine wpList_append_lies w hgd s x T ho base E i z sz i.bytes hT.und hi hz hs1 rfl hz2 hT.pos v l.length (fle sz enc l) hs hown ⟨b0, 0, none⟩ 1 1 cs.toList hx (by rw [hcs]; simp) (World.news_of_block (cs := cs) hb) h1 (by omega) (by unfold maxLen; omega) ?_ hbase _ rfl ?_
  · have := Nat.mul_le_mul h63 hby
    omega
  · intro g cap w' h1 h2 h3 _
    refine h g cap w' ?_ h2 h3
    unfold Ow
    rw [fle_app, fle_one, ← hcs]
    simpa using h1
end Go.Proofs.Ytioacgjggogflab

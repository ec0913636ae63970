/-
  What uses of good comes to: plain definitions and lemmas. No condition.
-/
import Derived.Test.YtblpajbacdbgpaaW
import Derived.Test.YtblpajbacdbgpaaZ
namespace Go.Proofs.Ytblpajbacdbgpaa
open Go.ChangeShapes Go.WideShapes Go.ChangeAt Go.RowKit Go.Deep Go.Joins
def xAt (M : MoD) (k : Int) : ExD := M.exprs.getD k.toNat default
def badU (M : MoD) (i run k : Int) : Bool :=
  (((xAt M k).op == 39) && (k != run)) || ((i == M.claim) && ((((xAt M k).op == 31) || ((xAt M k).op == 39)) || (((xAt M k).op == 2) && ((xAt M k).scope == 1))))
noncomputable def farU (M : MoD) (i k : Int) : Bool := ((xAt M k).op == 2) && decide ((slotsF M i (xAt M k).scope (xAt M k).ty : Int) < reachF (xAt M k).slot (xAt M k).dims)
noncomputable def usesF (M : MoD) (i run : Int) : Nat → List Bool → List Int → Bool
  | 0, _, _ => true
  | _ + 1, _, [] => true
  | n + 1, seen, k :: r =>
    if seen.getD k.toNat false = true then usesF M i run n seen r
    else if (badU M i run k || farU M i k) = true then false
    else usesF M i run n (seen.set k.toNat true) (r ++ heldF (xAt M k))
/-- How much may still be put on the list. -/
def potF (M : MoD) (seen : List Bool) : Nat := ((List.range M.exprs.length).map fun j => if seen.getD j false = true then 0 else (heldF (xAt M j)).length).sum
theorem sum_turn (f g : Nat → Nat) (k : Nat) (h : ∀ j, j ≠ k → f j = g j) : ∀ n, k < n → ((List.range n).map f).sum + g k = ((List.range n).map g).sum + f k := by
  intro n hk
  induction n with
  | zero => omega
  | succ n ih =>
    rw [List.range_succ, List.map_append, List.map_append, List.sum_append, List.sum_append]
    simp only [List.map_cons, List.map_nil, List.sum_cons, List.sum_nil]
    by_cases e : k = n
    · subst e
      have : (List.range k).map f = (List.range k).map g := List.map_congr_left fun j hj => h j (by have := List.mem_range.1 hj; omega)
      rw [this]; omega
    · have := ih (by omega)
      have := h n (by omega)
      omega
theorem pot_set (M : MoD) {seen : List Bool} {k : Nat} (hl : seen.length = M.exprs.length) (hk : k < M.exprs.length) (hs : seen.getD k false = false) : potF M (seen.set k true) + (heldF (xAt M k)).length = potF M seen := by
  have := sum_turn (fun j => if (seen.set k true).getD j false = true then 0 else (heldF (xAt M j)).length) (fun j => if seen.getD j false = true then 0 else (heldF (xAt M j)).length) k (fun j hj => by
    have : (seen.set k true).getD j false = seen.getD j false := by
      rw [List.getD_eq_getElem?_getD, List.getD_eq_getElem?_getD, List.getElem?_set_ne (Ne.symm hj)]
    simp only [this]) M.exprs.length hk
  have e1 : (seen.set k true).getD k false = true := by
    rw [List.getD_eq_getElem?_getD, List.getElem?_set_self (by omega)]; rfl
  simp only [e1, hs] at this
  unfold potF
  simpa using this
theorem held_len (x : ExD) (ha : x.args.length ≤ 1048576) (hd : x.dims.length ≤ 1048576) : (heldF x).length ≤ 2097156 := by
  unfold heldF headL argsL varL whoL
  rw [List.length_append, List.length_append, List.length_take]
  have h1 : (if x.op = 30 ∨ x.op = 39 then x.args else []).length ≤ 1048576 := by
    split
    · exact ha
    · simp
  have h2 : (if x.op = 2 then (if x.scope = 2 then [x.who] else []) ++ x.dims.map (·.i) else []).length ≤ 1048577 := by
    split
    · rw [List.length_append, List.length_map]; split <;> simp <;> omega
    · simp
  simp only [List.length_cons, List.length_nil]
  omega
theorem sum_le (f : Nat → Nat) (b : Nat) : ∀ n, (∀ j, j < n → f j ≤ b) → ((List.range n).map f).sum ≤ n * b := by
  intro n h
  induction n with
  | zero => simp
  | succ n ih =>
    rw [List.range_succ, List.map_append, List.sum_append]
    have := ih (fun j hj => h j (by omega))
    have := h n (by omega)
    simp only [List.map_cons, List.map_nil, List.sum_cons, List.sum_nil]
    rw [Nat.add_mul]; omega
theorem pot_le (M : MoD) (w : World) (hM : M.ok w) (seen : List Bool) : potF M seen ≤ 1048576 * 2097156 := by
  unfold potF
  refine Nat.le_trans (sum_le _ 2097156 _ fun j hj => ?_) (Nat.mul_le_mul_right _ hM.xz)
  have hx := hM.exprs _ (getD_mem hj)
  split
  · omega
  · exact held_len _ hx.az hx.dz
/-- The expressions may be. -/
def GoodX (M : MoD) : Prop := ∀ j, j < M.exprs.length → expressionF M j (M.exprs.getD j default) = true
theorem held_below {M : MoD} {a : Int} {x : ExD} (h : expressionF M a x = true) : ∀ p ∈ heldF x, inB a p = true := by
  unfold expressionF at h
  simp only [Bool.and_eq_true] at h
  obtain ⟨⟨-, hp⟩, ho⟩ := h
  have hpp : ∀ i, i < 3 → i < partsF x.op → inB a (pAt x i) = true := fun i hi hl => by
    have := List.all_eq_true.1 hp i (List.mem_range.2 hi)
    unfold partB at this
    rw [if_pos hl] at this
    exact this
  intro p hm
  unfold heldF at hm
  rw [List.mem_append, List.mem_append] at hm
  rcases hm with hm | hm | hm
  · unfold headL at hm
    obtain ⟨i, hi, rfl⟩ := List.getElem_of_mem hm
    rw [List.length_take] at hi
    rw [List.getElem_take]
    have hi3 : i < 3 := by simp at hi; omega
    have := hpp i hi3 (by omega)
    match i, hi3 with
    | 0, _ => exact this
    | 1, _ => exact this
    | 2, _ => exact this
  · unfold argsL at hm
    split at hm
    · rename_i hc
      unfold opF at ho
      rw [if_neg (by omega), if_neg (by omega)] at ho
      rcases hc with hc | hc
      · rw [if_pos hc] at ho
        unfold matchedF at ho
        simp only [Bool.and_eq_true] at ho
        exact List.all_eq_true.1 ho.1.1.2 p hm
      · rw [if_neg (by omega), if_neg (by omega), if_pos hc] at ho
        unfold runF at ho
        simp only [Bool.and_eq_true] at ho
        exact List.all_eq_true.1 ho.2 p hm
    · simp at hm
  · unfold varL at hm
    split at hm
    · rename_i hc
      unfold opF at ho
      rw [if_neg (by omega), if_pos hc] at ho
      unfold variableF at ho
      simp only [Bool.and_eq_true] at ho
      rw [List.mem_append] at hm
      rcases hm with hm | hm
      · unfold whoL at hm
        split at hm
        · rename_i hs
          have h2 := ho.1.2
          unfold varG at h2
          rw [if_pos hs] at h2
          simp only [Bool.and_eq_true] at h2
          simp at hm
          rw [hm]; exact h2.1
        · simp at hm
      · obtain ⟨d, hd, rfl⟩ := List.mem_map.1 hm
        have := List.all_eq_true.1 ho.2 d hd
        unfold dimB at this
        simp only [Bool.and_eq_true] at this
        exact this.1
    · simp at hm
theorem var_scope {M : MoD} {a : Int} {x : ExD} (h : expressionF M a x = true) (h2 : x.op = 2) : (0 ≤ x.scope ∧ x.scope ≤ 2) ∧ (x.scope = 2 → 0 ≤ x.ty ∧ x.ty < M.procs.length) := by
  unfold expressionF at h
  simp only [Bool.and_eq_true] at h
  obtain ⟨-, ho⟩ := h
  unfold opF at ho
  rw [if_neg (by omega), if_pos h2] at ho
  unfold variableF at ho
  simp only [Bool.and_eq_true, decide_eq_true_eq] at ho
  refine ⟨⟨ho.1.1.1, ho.1.1.2.1⟩, fun hs => ?_⟩
  have h3 := ho.1.2
  unfold varG at h3
  rw [if_pos hs] at h3
  simp only [Bool.and_eq_true, procF, decide_eq_true_eq] at h3
  exact ⟨h3.2.1, h3.2.2.1⟩
/-- The row of marks. -/
def SeenAt (w : World) (g : Nat) (seen : List Bool) : Prop := w.heap[g]? = some (.cells (seen.map Value.bool).toArray 4 (0, 0))
theorem SeenAt.cell {w : World} {g : Nat} {seen : List Bool} (h : SeenAt w g seen) {k : Nat} (hk : k < seen.length) : w.cell? ⟨g, k, none⟩ = some (.bool (seen.getD k false)) := by
  unfold SeenAt at h
  simp [World.cell?, h, hk, List.getD_eq_getElem?_getD]
theorem SeenAt.free {w : World} {g : Nat} {seen : List Bool} (h : SeenAt w g seen) (k : Nat) : w.frozen? ⟨g, k, none⟩ = false := by
  unfold SeenAt at h
  simp [World.frozen?, h]
theorem SeenAt.set {w : World} {g : Nat} {seen : List Bool} (h : SeenAt w g seen) (k : Nat) : SeenAt (w.setCell ⟨g, k, none⟩ (.bool true)) g (seen.set k true) := by
  unfold SeenAt at *
  simp only [World.setCell, Array.getElem?_modify]
  rw [if_pos trivial, h]
  simp [List.map_set]
theorem SeenAt.lt {w : World} {g : Nat} {seen : List Bool} (h : SeenAt w g seen) : g < w.heap.size := (Array.getElem?_eq_some_iff.1 h).1
theorem SeenAt.keep {w w' : World} {g : Nat} {seen : List Bool} (h : SeenAt w g seen) (hb : Below (g + 1) w w') : SeenAt w' g seen := (hb.block g (by omega)).trans h
theorem grown_setCell (w : World) (g k : Nat) (v : Value) : w.grownBy (w.setCell ⟨g, k, none⟩ v) (some g) :=
  ⟨rfl, rfl, rfl, by simp [World.setCell], fun j _ hj => Below.heap_setCell _ _ _ _ (fun h => hj (by rw [h]))⟩
end Go.Proofs.Ytblpajbacdbgpaa

/-
  The arguments of the Prep statements as data: tokens, cell by cell.
-/
import Derived.Test.YtaliplbbmhfenaaRows
import Derived.WalkKit
import Derived.ProofKit
import Derived.Lib.Hide
import Derived.BigQuiet
import Derived.Handy
import Derived.Deep.Slices
import Derived.Deep.Fields
import Derived.Lib.SmallJoins
import Derived.Deep.Quiet
namespace Go.Proofs.Ytaliplbbmhfenaa
open Go.ChangeShapes Go.WideShapes Go.ChangeAt Go.RowKit Go.Deep Go.Joins
theorem retb {a b : Bool} (h : a = b) : Ending.returned (.bool a) = Ending.returned (.bool b) := by rw [h]
theorem reti {k : IntKind} {a b : Int} (h : a = b) : Ending.returned (.int k a) = Ending.returned (.int k b) := by rw [h]
theorem bcell {W w1 : World} (hb : Below W.heap.size W w1) : ∀ b o, b < W.heap.size → w1.cell? ⟨b, o, none⟩ = W.cell? ⟨b, o, none⟩ := fun b o h => hb.cell (p := ⟨b, o, none⟩) h


/-- A slice value whose elements, of sz cells each, are told by a list: element i's cell j holds 'enc l[i] j'. -/
def Sl {α : Type} [Inhabited α] (w : World) (sz : Nat) (enc : α → Nat → Value) (v : Value) (l : List α) : Prop :=
  ∃ a cap, v = .slice a l.length cap ∧ l.length ≤ cap ∧ cap ≤ maxLen ∧ (0 < l.length → ∃ b off, a = some ⟨b, off, none⟩ ∧ b < w.heap.size ∧
    ∀ i, i < l.length → ∀ j, j < sz → w.cell? ⟨b, off + i * sz + j, none⟩ = some (enc (l.getD i default) j))
theorem Sl.keep {α : Type} [Inhabited α] {w w' : World} {sz : Nat} {enc : α → Nat → Value} {v : Value} {l : List α} (hb : Below w.heap.size w w') (h : Sl w sz enc v l) : Sl w' sz enc v l := by
  obtain ⟨a, cap, h1, h2, h3, h4⟩ := h
  exact ⟨a, cap, h1, h2, h3, fun hp => by
    obtain ⟨b, off, e1, e2, e3⟩ := h4 hp
    exact ⟨b, off, e1, Nat.lt_of_lt_of_le e2 hb.size, fun i hi j hj => (hb.cell e2).trans (e3 i hi j hj)⟩⟩
/-- A number of Go's type int. -/
def okI (n : Int) : Prop := -9223372036854775808 ≤ n ∧ n ≤ 9223372036854775807

theorem exists_list {α : Type} [Inhabited α] (n : Nat) (Q : Nat → α → Prop) (h : ∀ i, i < n → ∃ x, Q i x) : ∃ l : List α, l.length = n ∧ ∀ i, i < n → Q i (l.getD i default) := by
  induction n with
  | zero => exact ⟨[], rfl, fun i hi => absurd hi (by omega)⟩
  | succ n ih =>
    obtain ⟨l, hl, hq⟩ := ih (fun i hi => h i (by omega))
    obtain ⟨x, hx⟩ := h n (by omega)
    refine ⟨l ++ [x], by simp [hl], fun i hi => ?_⟩
    by_cases e : i < n
    · have := hq i e
      simpa [List.getD_eq_getElem?_getD, List.getElem?_append, hl, e] using this
    · have : i = n := by omega
      subst this
      simpa [List.getD_eq_getElem?_getD, List.getElem?_append, hl] using hx
theorem ok_of_wf {n : Int} (h : (Lit.int .i64 n).wf = true) : okI n := by
  simp [Lit.wf, IntKind.min, IntKind.max, IntKind.signed, IntKind.bits] at h
  unfold okI
  omega
/-- The one-cell types of a type's cells. -/
def flat (P : Program) : Nat → TypeId → List TypeId
  | 0, t => [t]
  | n + 1, t => match P.underlying t with
    | some (.struct fs) => fs.toList.flatMap fun f => flat P n f.type
    | _ => [t]
/-- The fields lie one behind the other. -/
def flatB (P : Program) : Nat → TypeId → Bool
  | 0, _ => true
  | n + 1, t => match P.underlying t with
    | some (.struct fs) => (List.range fs.toList.length).all fun q => match fs.toList[q]? with
      | some f => f.offset == ((fs.toList.take q).flatMap fun f => flat P n f.type).length && P.cellsOf f.type == (flat P n f.type).length && flatB P n f.type
      | none => false
    | _ => true
theorem flatMap_at {α β : Type} (g : α → List β) : ∀ (l : List α) (j : Nat) (u : β), (l.flatMap g)[j]? = some u → ∃ q r f, l[q]? = some f ∧ (g f)[r]? = some u ∧ j = ((l.take q).flatMap g).length + r
  | [], j, u, h => by simp at h
  | x :: l, j, u, h => by
    rw [List.flatMap_cons] at h
    by_cases hj : j < (g x).length
    · rw [List.getElem?_append_left hj] at h
      exact ⟨0, j, x, rfl, h, by simp⟩
    · rw [List.getElem?_append_right (by omega)] at h
      obtain ⟨q, r, f, h1, h2, h3⟩ := flatMap_at g l _ u h
      exact ⟨q + 1, r, f, by simpa using h1, h2, by rw [List.take_succ_cons, List.flatMap_cons, List.length_append]; omega⟩
section
variable {H : Type} {enc : TypeId × Value → H} {P : Program} {w : World} {spare : Nat → Bool} {held : Bool}
/-- A slice without an array has no room. -/
def Sn (v : Value) : Prop := ∀ n cap, v = .slice none n cap → cap = 0
/-- A slice of structs that reads, as 'Sl', and is not great. -/
theorem sl_of {α : Type} [Inhabited α] {t e : TypeId} {fuel : Nat} {v : Value} {x : DataW H × List MemPlace} (sz : Nat) (ce : α → Nat → Value) (Q : α → Prop)
    (ht : P.underlying t = some (.slice e)) (hC : P.cellsOf e = sz) (hsz : 0 < sz)
    (he : ∀ n cs' y, DataW.trod enc P w 0 spare held n e cs' = some y → ∃ a : α, (∀ j, j < sz → cs'[j]? = some (ce a j)) ∧ Q a)
    (h : DataW.trod enc P w 0 spare held fuel t [v] = some x) : ∃ l : List α, Sl w sz ce v l ∧ (∀ a ∈ l, Q a) ∧ Sn v := by
  rcases open_slice ht h with ⟨h0, _⟩ | ⟨a, len, cap, m, n, D, Pl, hcs, hb, hl, hm, hmm, hx, hi⟩
  · exact ⟨[], ⟨none, 0, by simpa using h0, Nat.le_refl _, by decide, fun h => absurd h (by simp)⟩, (fun a ha => by simp at ha), fun n cap h => by
      obtain rfl : v = .slice none 0 0 := by simpa using h0
      simp at h; exact h.2.symm⟩
  · have hlm : len ≤ m := by rw [hmm]; split <;> omega
    have hall : ∀ i, i < len → ∃ y : α, (∀ j, j < sz → w.cell? (a.add (i * sz + j)) = some (ce y j)) ∧ Q y := fun i hil => by
      obtain ⟨cs', hc, ht'⟩ := hi i (by omega)
      obtain ⟨y, hy, hq⟩ := he n cs' _ ht'
      rw [hC] at hc
      obtain ⟨_, _, hcell⟩ := World.cells?_some hc
      exact ⟨y, fun j hj => by rw [← Go.Deep.add_add, hcell j hj, hy j hj], hq⟩
    obtain ⟨l, hlen, hq⟩ := exists_list len _ hall
    refine ⟨l, ⟨some a, cap, by rw [hlen]; simpa using hcs, by omega, hm, fun hp => ?_⟩, fun y hy => ?_, fun n' cap' h => by
      obtain rfl : v = .slice (some a) len cap := by simpa using hcs
      simp at h⟩
    · have h0 := (hq 0 (by omega)).1 0 hsz
      obtain ⟨b, off, spot⟩ := a
      have hspot : spot = none := by
        cases spot with
        | none => rfl
        | some s => simp [World.cell?, Addr.add] at h0; split at h0 <;> simp at h0
      subst hspot
      have hlt := World.block_lt_of_cell? w _ h0
      refine ⟨b, off, rfl, by simpa [Addr.add] using hlt, fun i hi j hj => ?_⟩
      have := (hq i (by omega)).1 j hj
      have e : (⟨b, off, none⟩ : Addr).add (i * sz + j) = ⟨b, off + i * sz + j, none⟩ := by
        unfold Addr.add; split <;> simp <;> omega
      rw [e] at this
      exact this
    · obtain ⟨i, hi, rfl⟩ := List.getElem_of_mem hy
      have := (hq i (by omega)).2
      simpa [List.getD_eq_getElem?_getD, hi] using this
theorem flat_cells : ∀ (n : Nat) (t : TypeId) (k : Nat) (cs : List Value) (x : DataW H × List MemPlace), flatB P n t = true → cs.length = (flat P n t).length → DataW.trod enc P w 0 spare held k t cs = some x →
    ∀ (j : Nat) (u : TypeId), (flat P n t)[j]? = some u → ∃ (m : Nat) (v : Value) (y : DataW H × List MemPlace), cs[j]? = some v ∧ DataW.trod enc P w 0 spare held m u [v] = some y := by
  intro n
  induction n with
  | zero =>
    intro t k cs x _ hl h j u hu
    match cs, hl with
    | [v], _ =>
      have hj : j = 0 := by
        have := (List.getElem?_eq_some_iff.1 hu).1
        simp [flat] at this; omega
      subst hj
      obtain rfl : t = u := by simpa [flat] using hu
      exact ⟨k, v, x, rfl, h⟩
  | succ n ih =>
    intro t k cs x hB hl h j u hu
    unfold flat at hl hu
    unfold flatB at hB
    split at hl
    · rename_i fs hfs
      rw [hfs] at hu hB
      simp only at hu hB
      obtain ⟨q, r, f, h1, h2, h3⟩ := flatMap_at _ _ _ _ hu
      obtain ⟨ys, n', _, hx, hlen, hyl, hf⟩ := DataW.trod_struct hfs h
      have hq := (List.getElem?_eq_some_iff.1 h1).1
      have hb := List.all_eq_true.1 hB q (List.mem_range.2 hq)
      rw [h1] at hb
      simp only [Bool.and_eq_true, beq_iff_eq] at hb
      obtain ⟨⟨b1, b2⟩, b3⟩ := hb
      have h1' : fs[q]? = some f := by simpa using h1
      have hft := hf q f h1'
      have hys : ys[q]? = some (ys[q]'(by simp at hq; omega)) := List.getElem?_eq_getElem _
      rw [hys] at hft
      have hr := (List.getElem?_eq_some_iff.1 h2).1
      have htot : ((fs.toList.take q).flatMap fun f => flat P n f.type).length + (flat P n f.type).length ≤ cs.length := by
        rw [hl]
        have e : fs.toList = fs.toList.take q ++ f :: fs.toList.drop (q + 1) := by
          have h4 := List.getElem?_eq_some_iff.1 h1
          rw [← h4.2, ← List.drop_eq_getElem_cons hq, List.take_append_drop]
        conv => rhs; rw [e]
        rw [List.flatMap_append, List.flatMap_cons, List.length_append, List.length_append]
        omega
      obtain ⟨m, v, y, hv, hy⟩ := ih f.type n' _ _ b3 (by rw [List.length_take, List.length_drop, b2, b1]; omega) hft r u h2
      refine ⟨m, v, y, ?_, hy⟩
      rw [List.getElem?_take] at hv
      split at hv
      · rw [List.getElem?_drop, b1] at hv
        rw [h3]; exact hv
      · exact absurd hv (by simp)
    · rename_i hn
      have hu' : [t][j]? = some u := by
        split at hu
        · rename_i fs hfs; exact absurd hfs (hn fs)
        · exact hu
      match cs, hl with
      | [v], _ =>
        have hj : j = 0 := by
          have := (List.getElem?_eq_some_iff.1 hu').1
          simp at this; omega
        subst hj
        obtain rfl : t = u := by simpa using hu'
        exact ⟨k, v, x, rfl, h⟩
end
structure TkD where
  kind : Int
  at' : Int
  line : Int
  text : ByteArray
  n : Int
deriving Inhabited
def TkD.enc (t : TkD) : Nat → Value
  | 0 => .int .i64 t.kind
  | 1 => .int .i64 t.at'
  | 2 => .int .i64 t.line
  | 3 => .string t.text
  | _ => .int .i64 t.n
structure TkD.ok (x : TkD) : Prop where
  kind : okI x.kind
  at' : okI x.at'
  line : okI x.line
  text : x.text.size ≤ maxLen
  n : okI x.n
def TkD.val (x : TkD) : Value := .agg #[.int .i64 x.kind, .int .i64 x.at', .int .i64 x.line, .string x.text, .int .i64 x.n]
def TkD.cs (x : TkD) : List Value := [.int .i64 x.kind, .int .i64 x.at', .int .i64 x.line, .string x.text, .int .i64 x.n]
section
variable {H : Type} {enc : TypeId × Value → H} {w : World} {spare : Nat → Bool} {held : Bool}
theorem int2_cell {n : Nat} {v : Value} {y : DataW H × List MemPlace} (h : DataW.trod enc Try.prog w 0 spare held n 2 [v] = some y) : ∃ i, v = .int .i64 i ∧ okI i := by
  obtain ⟨i, h1, _, h2⟩ := DataW.trod_int Try.underlying2 h
  exact ⟨i, by simpa using h1, ok_of_wf h2⟩
theorem int_cell {n : Nat} {v : Value} {y : DataW H × List MemPlace} (h : DataW.trod enc Try.prog w 0 spare held n 3 [v] = some y) : ∃ i, v = .int .i64 i ∧ okI i := by
  obtain ⟨i, h1, _, h2⟩ := DataW.trod_int Try.underlying3 h
  exact ⟨i, by simpa using h1, ok_of_wf h2⟩
theorem str_cell {n : Nat} {v : Value} {y : DataW H × List MemPlace} (h : DataW.trod enc Try.prog w 0 spare held n 9 [v] = some y) : ∃ s, v = .string s ∧ s.size ≤ maxLen := by
  obtain ⟨s, h1, _, h2⟩ := DataW.trod_string Try.underlying9 h
  exact ⟨s, by simpa using h1, h2⟩
theorem tk_read {n : Nat} {cs : List Value} {y : DataW H × List MemPlace} (h : DataW.trod enc Try.prog w 0 spare held n 25 cs = some y) : ∃ a : TkD, (∀ j, j < 5 → cs[j]? = some (a.enc j)) ∧ a.ok := by
  obtain ⟨_, _, _, _, hlen, _, _⟩ := DataW.trod_struct Try.underlying25 h
  have hf := flat_cells (P := Try.prog) 3 25 n cs y (by kernel_rfl) (hlen.trans (by kernel_rfl)) h
  obtain ⟨m0, v0, y0, c0, h0⟩ := hf 0 _ rfl
  obtain ⟨i0, rfl, o0⟩ := int_cell h0
  obtain ⟨m1, v1, y1, c1, h1⟩ := hf 1 _ rfl
  obtain ⟨i1, rfl, o1⟩ := int_cell h1
  obtain ⟨m2, v2, y2, c2, h2⟩ := hf 2 _ rfl
  obtain ⟨i2, rfl, o2⟩ := int_cell h2
  obtain ⟨m3, v3, y3, c3, h3⟩ := hf 3 _ rfl
  obtain ⟨i3, rfl, o3⟩ := str_cell h3
  obtain ⟨m4, v4, y4, c4, h4⟩ := hf 4 _ rfl
  obtain ⟨i4, rfl, o4⟩ := int2_cell h4
  refine ⟨⟨i0, i1, i2, i3, i4⟩, fun j hj => ?_, ⟨o0, o1, o2, o3, o4⟩⟩
  match j, hj with
  | 0, _ => exact c0
  | 1, _ => exact c1
  | 2, _ => exact c2
  | 3, _ => exact c3
  | 4, _ => exact c4
  | _ + 5, hj => exact absurd hj (by omega)
theorem tks_of {n : Nat} {v : Value} {x : DataW H × List MemPlace} (h : DataW.trod enc Try.prog w 0 spare held n 22 [v] = some x) : ∃ l : List TkD, Sl w 5 TkD.enc v l ∧ (∀ a ∈ l, a.ok) ∧ Sn v :=
  sl_of 5 TkD.enc (fun a => a.ok) Try.underlying22 (by kernel_rfl) (by omega) (fun n cs' y hy => tk_read hy) h
end
theorem same_all {α : Type} [Inhabited α] {a b : List α} (hl : a.length = b.length) (h : ∀ i, i < a.length → a.getD i default = b.getD i default) : a = b := by
  refine List.ext_getElem hl fun i h1 h2 => ?_
  have := h i h1
  rw [List.getD_eq_getElem?_getD, List.getD_eq_getElem?_getD, List.getElem?_eq_getElem h1, List.getElem?_eq_getElem h2] at this
  simpa using this
theorem sl_open {α : Type} [Inhabited α] {w : World} {sz : Nat} {enc : α → Nat → Value} {v : Value} {l : List α} (h : Sl w sz enc v l) : ∃ a cap, v = .slice a l.length cap ∧ l.length ≤ 9223372036854775807 ∧ Hid (0 < l.length → ∃ b off, a = some ⟨b, off, none⟩ ∧ b < w.heap.size ∧
    ∀ i, i < l.length → ∀ j, j < sz → w.cell? ⟨b, off + i * sz + j, none⟩ = some (enc (l.getD i default) j)) := by
  obtain ⟨a, cap, h1, h2, h3, h4⟩ := h
  exact ⟨a, cap, h1, Nat.le_trans (Nat.le_trans h2 h3) (by decide), h4⟩
/-- The five cells of element k of a slice of tokens. -/
theorem tk_cells {w : World} {b off : Nat} {x : TkD} (h : ∀ j, j < 5 → w.cell? ⟨b, off + j, none⟩ = some (x.enc j)) :
    w.cell? ⟨b, off, none⟩ = some (.int .i64 x.kind) ∧ w.cell? ⟨b, off + 1, none⟩ = some (.int .i64 x.at') ∧ w.cell? ⟨b, off + 2, none⟩ = some (.int .i64 x.line) ∧ w.cell? ⟨b, off + 3, none⟩ = some (.string x.text) ∧ w.cell? ⟨b, off + 4, none⟩ = some (.int .i64 x.n) :=
  ⟨h 0 (by omega), h 1 (by omega), h 2 (by omega), h 3 (by omega), h 4 (by omega)⟩
end Go.Proofs.Ytaliplbbmhfenaa

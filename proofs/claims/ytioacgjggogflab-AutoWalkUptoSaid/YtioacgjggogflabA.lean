/-
  The arguments of AutoWalk as data: a proctype and its places (from the texts of GoodStill), cell by cell.
-/
import Derived.Test.YtioacgjggogflabRows
import Derived.WalkKit
import Derived.ProofKit
import Derived.Lib.Hide
import Derived.BigQuiet
import Derived.Handy
import Derived.Deep.Slices
import Derived.Deep.Fields
import Derived.Lib.SmallJoins
import Derived.Deep.Quiet
namespace Go.Proofs.Ytioacgjggogflab
open Go.ChangeShapes Go.WideShapes Go.ChangeAt Go.RowKit Go.Deep Go.Joins
theorem retb {a b : Bool} (h : a = b) : Ending.returned (.bool a) = Ending.returned (.bool b) := by rw [h]
theorem reti {k : IntKind} {a b : Int} (h : a = b) : Ending.returned (.int k a) = Ending.returned (.int k b) := by rw [h]
theorem bcell {W w1 : World} (hb : Below W.heap.size W w1) : ∀ b o, b < W.heap.size → w1.cell? ⟨b, o, none⟩ = W.cell? ⟨b, o, none⟩ := fun b o h => hb.cell (p := ⟨b, o, none⟩) h


/-- A slice value whose elements, of sz cells each, are told by a list: element i's cell j holds 'enc l[i] j'. -/
def Sl {α : Type} [Inhabited α] (w : World) (sz : Nat) (enc : α → Nat → Value) (v : Value) (l : List α) : Prop :=
  ∃ a cap, v = .slice a l.length cap ∧ l.length ≤ cap ∧ cap ≤ maxLen ∧ (0 < l.length → ∃ b off, a = some ⟨b, off, none⟩ ∧ b < w.heap.size ∧
    ∀ i, i < l.length → ∀ j, j < sz → w.cell? ⟨b, off + i * sz + j, none⟩ = some (enc (l.getD i default) j))
theorem Sl.keep {α : Type} [Inhabited α] {w w' : World} {sz : Nat} {enc : α → Nat → Value} {v : Value} {l : List α} (hb : Below w.heap.size w w') (h : Sl w sz enc v l) : Sl w' sz enc v l := by
  obtain ⟨a, cap, h1, h2, h3, h4⟩ := h
  exact ⟨a, cap, h1, h2, h3, fun hp => by
    obtain ⟨b, off, e1, e2, e3⟩ := h4 hp
    exact ⟨b, off, e1, Nat.lt_of_lt_of_le e2 hb.size, fun i hi j hj => (hb.cell e2).trans (e3 i hi j hj)⟩⟩
/-- A number of Go's type int. -/
def okI (n : Int) : Prop := -9223372036854775808 ≤ n ∧ n ≤ 9223372036854775807

theorem exists_list {α : Type} [Inhabited α] (n : Nat) (Q : Nat → α → Prop) (h : ∀ i, i < n → ∃ x, Q i x) : ∃ l : List α, l.length = n ∧ ∀ i, i < n → Q i (l.getD i default) := by
  induction n with
  | zero => exact ⟨[], rfl, fun i hi => absurd hi (by omega)⟩
  | succ n ih =>
    obtain ⟨l, hl, hq⟩ := ih (fun i hi => h i (by omega))
    obtain ⟨x, hx⟩ := h n (by omega)
    refine ⟨l ++ [x], by simp [hl], fun i hi => ?_⟩
    by_cases e : i < n
    · have := hq i e
      simpa [List.getD_eq_getElem?_getD, List.getElem?_append, hl, e] using this
    · have : i = n := by omega
      subst this
      simpa [List.getD_eq_getElem?_getD, List.getElem?_append, hl] using hx
theorem ok_of_wf {n : Int} (h : (Lit.int .i64 n).wf = true) : okI n := by
  simp [Lit.wf, IntKind.min, IntKind.max, IntKind.signed, IntKind.bits] at h
  unfold okI
  omega
/-- The one-cell types of a type's cells. -/
def flat (P : Program) : Nat → TypeId → List TypeId
  | 0, t => [t]
  | n + 1, t => match P.underlying t with
    | some (.struct fs) => fs.toList.flatMap fun f => flat P n f.type
    | _ => [t]
/-- The fields lie one behind the other. -/
def flatB (P : Program) : Nat → TypeId → Bool
  | 0, _ => true
  | n + 1, t => match P.underlying t with
    | some (.struct fs) => (List.range fs.toList.length).all fun q => match fs.toList[q]? with
      | some f => f.offset == ((fs.toList.take q).flatMap fun f => flat P n f.type).length && P.cellsOf f.type == (flat P n f.type).length && flatB P n f.type
      | none => false
    | _ => true
theorem flatMap_at {α β : Type} (g : α → List β) : ∀ (l : List α) (j : Nat) (u : β), (l.flatMap g)[j]? = some u → ∃ q r f, l[q]? = some f ∧ (g f)[r]? = some u ∧ j = ((l.take q).flatMap g).length + r
  | [], j, u, h => by simp at h
  | x :: l, j, u, h => by
    rw [List.flatMap_cons] at h
    by_cases hj : j < (g x).length
    · rw [List.getElem?_append_left hj] at h
      exact ⟨0, j, x, rfl, h, by simp⟩
    · rw [List.getElem?_append_right (by omega)] at h
      obtain ⟨q, r, f, h1, h2, h3⟩ := flatMap_at g l _ u h
      exact ⟨q + 1, r, f, by simpa using h1, h2, by rw [List.take_succ_cons, List.flatMap_cons, List.length_append]; omega⟩
/-- What a reading holds is not great. -/
def Small {H : Type} (d : DataW H) : Prop := Rows.uptoBulk d ≤ 1048576
theorem bulk_mem {H : Type} {d : DataW H} : ∀ {l : List (DataW H)}, d ∈ l → Rows.uptoBulk d ≤ Rows.uptoBulkAll l
  | x :: l, h => by
    rw [List.mem_cons] at h
    unfold Rows.uptoBulkAll
    rcases h with rfl | h
    · omega
    · have := bulk_mem h
      omega
theorem bulk_pos {H : Type} (d : DataW H) : 1 ≤ Rows.uptoBulk d := by
  cases d with
  | lit l => cases l <;> simp [Rows.uptoBulk]
  | _ => simp [Rows.uptoBulk]
theorem bulk_len {H : Type} : ∀ (l : List (DataW H)), l.length ≤ Rows.uptoBulkAll l
  | [] => by simp
  | x :: l => by
    have := bulk_len l
    have := bulk_pos x
    unfold Rows.uptoBulkAll
    rw [List.length_cons]; omega
theorem small_part {H : Type} {l : List (DataW H)} (h : Small (.agg l)) {d : DataW H} (hd : d ∈ l) : Small d := by
  have := bulk_mem hd
  unfold Small Rows.uptoBulk at *
  omega
theorem small_elem {H : Type} {l r : List (DataW H)} (h : Small (.slice l r)) {d : DataW H} (hd : d ∈ l) : Small d := by
  have := bulk_mem hd
  unfold Small Rows.uptoBulk at *
  omega
theorem small_len {H : Type} {l r : List (DataW H)} (h : Small (.slice l r)) : l.length ≤ 1048576 := by
  have := bulk_len l
  unfold Small Rows.uptoBulk at h
  omega
section
variable {H : Type} {enc : TypeId × Value → H} {P : Program} {w : World} {spare : Nat → Bool} {held : Bool}
/-- A slice without an array has no room. -/
def Sn (v : Value) : Prop := ∀ n cap, v = .slice none n cap → cap = 0
/-- A slice of structs that reads, as 'Sl', and is not great. -/
theorem sl_of_small {α : Type} [Inhabited α] {t e : TypeId} {fuel : Nat} {v : Value} {x : DataW H × List MemPlace} (sz : Nat) (ce : α → Nat → Value) (Q : α → Prop)
    (ht : P.underlying t = some (.slice e)) (hC : P.cellsOf e = sz) (hsz : 0 < sz)
    (he : ∀ n cs' y, DataW.trod enc P w 0 spare held n e cs' = some y → Small y.1 → ∃ a : α, (∀ j, j < sz → cs'[j]? = some (ce a j)) ∧ Q a)
    (h : DataW.trod enc P w 0 spare held fuel t [v] = some x) (hs : Small x.1) : ∃ l : List α, Sl w sz ce v l ∧ (∀ a ∈ l, Q a) ∧ l.length ≤ 1048576 ∧ Sn v := by
  rcases open_slice ht h with ⟨h0, _⟩ | ⟨a, len, cap, m, n, D, Pl, hcs, hb, hl, hm, hmm, hx, hi⟩
  · exact ⟨[], ⟨none, 0, by simpa using h0, Nat.le_refl _, by decide, fun h => absurd h (by simp)⟩, (fun a ha => by simp at ha), by simp, fun n cap h => by
      obtain rfl : v = .slice none 0 0 := by simpa using h0
      simp at h; exact h.2.symm⟩
  · have hlm : len ≤ m := by rw [hmm]; split <;> omega
    rw [hx] at hs
    have hall : ∀ i, i < len → ∃ y : α, (∀ j, j < sz → w.cell? (a.add (i * sz + j)) = some (ce y j)) ∧ Q y := fun i hil => by
      obtain ⟨cs', hc, ht'⟩ := hi i (by omega)
      obtain ⟨y, hy, hq⟩ := he n cs' _ ht' (small_elem hs (List.mem_map.2 ⟨i, List.mem_range.2 hil, rfl⟩))
      rw [hC] at hc
      obtain ⟨_, _, hcell⟩ := World.cells?_some hc
      exact ⟨y, fun j hj => by rw [← Go.Deep.add_add, hcell j hj, hy j hj], hq⟩
    have hln := small_len hs
    rw [List.length_map, List.length_range] at hln
    obtain ⟨l, hlen, hq⟩ := exists_list len _ hall
    refine ⟨l, ⟨some a, cap, by rw [hlen]; simpa using hcs, by omega, hm, fun hp => ?_⟩, fun y hy => ?_, by omega, fun n' cap' h => by
      obtain rfl : v = .slice (some a) len cap := by simpa using hcs
      simp at h⟩
    · have h0 := (hq 0 (by omega)).1 0 hsz
      obtain ⟨b, off, spot⟩ := a
      have hspot : spot = none := by
        cases spot with
        | none => rfl
        | some s => simp [World.cell?, Addr.add] at h0; split at h0 <;> simp at h0
      subst hspot
      have hlt := World.block_lt_of_cell? w _ h0
      refine ⟨b, off, rfl, by simpa [Addr.add] using hlt, fun i hi j hj => ?_⟩
      have := (hq i (by omega)).1 j hj
      have e : (⟨b, off, none⟩ : Addr).add (i * sz + j) = ⟨b, off + i * sz + j, none⟩ := by
        unfold Addr.add; split <;> simp <;> omega
      rw [e] at this
      exact this
    · obtain ⟨i, hi, rfl⟩ := List.getElem_of_mem hy
      have := (hq i (by omega)).2
      simpa [List.getD_eq_getElem?_getD, hi] using this
theorem flat_cells : ∀ (n : Nat) (t : TypeId) (k : Nat) (cs : List Value) (x : DataW H × List MemPlace), flatB P n t = true → cs.length = (flat P n t).length → DataW.trod enc P w 0 spare held k t cs = some x → Small x.1 →
    ∀ (j : Nat) (u : TypeId), (flat P n t)[j]? = some u → ∃ (m : Nat) (v : Value) (y : DataW H × List MemPlace), cs[j]? = some v ∧ DataW.trod enc P w 0 spare held m u [v] = some y ∧ Small y.1 := by
  intro n
  induction n with
  | zero =>
    intro t k cs x _ hl h hsm j u hu
    match cs, hl with
    | [v], _ =>
      have hj : j = 0 := by
        have := (List.getElem?_eq_some_iff.1 hu).1
        simp [flat] at this; omega
      subst hj
      obtain rfl : t = u := by simpa [flat] using hu
      exact ⟨k, v, x, rfl, h, hsm⟩
  | succ n ih =>
    intro t k cs x hB hl h hsm j u hu
    unfold flat at hl hu
    unfold flatB at hB
    split at hl
    · rename_i fs hfs
      rw [hfs] at hu hB
      simp only at hu hB
      obtain ⟨q, r, f, h1, h2, h3⟩ := flatMap_at _ _ _ _ hu
      obtain ⟨ys, n', _, hx, hlen, hyl, hf⟩ := DataW.trod_struct hfs h
      have hq := (List.getElem?_eq_some_iff.1 h1).1
      have hb := List.all_eq_true.1 hB q (List.mem_range.2 hq)
      rw [h1] at hb
      simp only [Bool.and_eq_true, beq_iff_eq] at hb
      obtain ⟨⟨b1, b2⟩, b3⟩ := hb
      have h1' : fs[q]? = some f := by simpa using h1
      have hft := hf q f h1'
      have hys : ys[q]? = some (ys[q]'(by simp at hq; omega)) := List.getElem?_eq_getElem _
      rw [hys] at hft
      have hr := (List.getElem?_eq_some_iff.1 h2).1
      have htot : ((fs.toList.take q).flatMap fun f => flat P n f.type).length + (flat P n f.type).length ≤ cs.length := by
        rw [hl]
        have e : fs.toList = fs.toList.take q ++ f :: fs.toList.drop (q + 1) := by
          have h4 := List.getElem?_eq_some_iff.1 h1
          rw [← h4.2, ← List.drop_eq_getElem_cons hq, List.take_append_drop]
        conv => rhs; rw [e]
        rw [List.flatMap_append, List.flatMap_cons, List.length_append, List.length_append]
        omega
      have hsy : Small (ys[q]'(by simp at hq; omega)).1 := small_part (by rw [hx] at hsm; exact hsm) (List.mem_map.2 ⟨_, List.getElem_mem _, rfl⟩)
      obtain ⟨m, v, y, hv, hy, hs⟩ := ih f.type n' _ _ b3 (by rw [List.length_take, List.length_drop, b2, b1]; omega) hft hsy r u h2
      refine ⟨m, v, y, ?_, hy, hs⟩
      rw [List.getElem?_take] at hv
      split at hv
      · rw [List.getElem?_drop, b1] at hv
        rw [h3]; exact hv
      · exact absurd hv (by simp)
    · rename_i hn
      have hu' : [t][j]? = some u := by
        split at hu
        · rename_i fs hfs; exact absurd hfs (hn fs)
        · exact hu
      match cs, hl with
      | [v], _ =>
        have hj : j = 0 := by
          have := (List.getElem?_eq_some_iff.1 hu').1
          simp at this; omega
        subst hj
        obtain rfl : t = u := by simpa using hu'
        exact ⟨k, v, x, rfl, h, hsm⟩
end
structure TyD where
  bits : Int
  signed : Bool
deriving Inhabited
def TyD.enc (t : TyD) : Nat → Value
  | 0 => .int .i64 t.bits
  | _ => .bool t.signed
def iEnc (n : Int) : Nat → Value := fun _ => .int .i64 n
structure TrD where
  kind : Int
  a : Int
  b : Int
  n : Int
  av : Value
  mv : Value
  text : ByteArray
  to : Int
  line : Int
  args : List Int
  mat : List Int
deriving Inhabited
def TrD.enc (x : TrD) : Nat → Value
  | 0 => .int .i64 x.kind
  | 1 => .int .i64 x.a
  | 2 => .int .i64 x.b
  | 3 => .int .i64 x.n
  | 4 => x.av
  | 5 => x.mv
  | 6 => .string x.text
  | 7 => .int .i64 x.to
  | _ => .int .i64 x.line
structure TrD.ok (w : World) (x : TrD) : Prop where
  kind : okI x.kind
  a : okI x.a
  b : okI x.b
  n : okI x.n
  to : okI x.to
  line : okI x.line
  text : x.text.size ≤ maxLen
  av : Sl w 1 iEnc x.av x.args
  args : ∀ n ∈ x.args, okI n
  an : Sn x.av
  az : x.args.length ≤ 1048576
  mv : Sl w 1 iEnc x.mv x.mat
  mat : ∀ n ∈ x.mat, okI n
  mz : x.mat.length ≤ 1048576
structure EsD where
  v : Value
  l : List TrD
deriving Inhabited
def EsD.enc (x : EsD) : Nat → Value := fun _ => x.v
def EsD.ok (w : World) (x : EsD) : Prop := Sl w 9 TrD.enc x.v x.l ∧ (∀ t ∈ x.l, t.ok w) ∧ x.l.length ≤ 1048576 ∧ Sn x.v
structure LoD where
  ov : Value
  ev : Value
  atomic : Bool
  dstep : Bool
  e : Bool
  acc : Bool
  pro : Bool
  out : List TrD
  esc : List EsD
deriving Inhabited
def LoD.enc (x : LoD) : Nat → Value
  | 0 => x.ov
  | 1 => x.ev
  | 2 => .bool x.atomic
  | 3 => .bool x.dstep
  | 4 => .bool x.e
  | 5 => .bool x.acc
  | _ => .bool x.pro
structure LoD.ok (w : World) (x : LoD) : Prop where
  ov : Sl w 9 TrD.enc x.ov x.out
  out : ∀ t ∈ x.out, t.ok w
  on : Sn x.ov
  oz : x.out.length ≤ 1048576
  ev : Sl w 1 EsD.enc x.ev x.esc
  esc : ∀ t ∈ x.esc, t.ok w
  en : Sn x.ev
  ez : x.esc.length ≤ 1048576
structure PrD where
  name : ByteArray
  params : Int
  fv : Value
  iv : Value
  lv : Value
  start : Int
  final : Int
  active : Int
  prio : Int
  provided : Int
  frame : List TyD
  init : List Int
  locs : List LoD
deriving Inhabited
def PrD.enc (x : PrD) : Nat → Value
  | 0 => .string x.name
  | 1 => .int .i64 x.params
  | 2 => x.fv
  | 3 => x.iv
  | 4 => x.lv
  | 5 => .int .i64 x.start
  | 6 => .int .i64 x.final
  | 7 => .int .i64 x.active
  | 8 => .int .i64 x.prio
  | _ => .int .i64 x.provided
structure PrD.ok (w : World) (x : PrD) : Prop where
  params : okI x.params
  start : okI x.start
  final : okI x.final
  active : okI x.active
  prio : okI x.prio
  provided : okI x.provided
  fv : Sl w 2 TyD.enc x.fv x.frame
  fz : x.frame.length ≤ 1048576
  iv : Sl w 1 iEnc x.iv x.init
  init : ∀ n ∈ x.init, okI n
  iz : x.init.length ≤ 1048576
  lv : Sl w 7 LoD.enc x.lv x.locs
  locs : ∀ t ∈ x.locs, t.ok w
  lz : x.locs.length ≤ 1048576
def PrD.val (x : PrD) : Value := .agg #[.string x.name, .int .i64 x.params, x.fv, x.iv, x.lv, .int .i64 x.start, .int .i64 x.final, .int .i64 x.active, .int .i64 x.prio, .int .i64 x.provided]
section
variable {H : Type} {enc : TypeId × Value → H} {w : World} {spare : Nat → Bool} {held : Bool}
theorem int2_cell {n : Nat} {v : Value} {y : DataW H × List MemPlace} (h : DataW.trod enc Try.prog w 0 spare held n 2 [v] = some y) : ∃ i, v = .int .i64 i ∧ okI i := by
  obtain ⟨i, h1, _, h2⟩ := DataW.trod_int Try.underlying2 h
  exact ⟨i, by simpa using h1, ok_of_wf h2⟩
theorem int_cell {n : Nat} {v : Value} {y : DataW H × List MemPlace} (h : DataW.trod enc Try.prog w 0 spare held n 3 [v] = some y) : ∃ i, v = .int .i64 i ∧ okI i := by
  obtain ⟨i, h1, _, h2⟩ := DataW.trod_int Try.underlying3 h
  exact ⟨i, by simpa using h1, ok_of_wf h2⟩
theorem bool_cell {n : Nat} {v : Value} {y : DataW H × List MemPlace} (h : DataW.trod enc Try.prog w 0 spare held n 4 [v] = some y) : ∃ i, v = .bool i := by
  obtain ⟨i, h1, _⟩ := DataW.trod_bool Try.underlying4 h
  exact ⟨i, by simpa using h1⟩
theorem str_cell {n : Nat} {v : Value} {y : DataW H × List MemPlace} (h : DataW.trod enc Try.prog w 0 spare held n 9 [v] = some y) : ∃ s, v = .string s ∧ s.size ≤ maxLen := by
  obtain ⟨s, h1, _, h2⟩ := DataW.trod_string Try.underlying9 h
  exact ⟨s, by simpa using h1, h2⟩
end
section
variable {H : Type} {enc : TypeId × Value → H} {P : Program} {w : World} {spare : Nat → Bool} {held : Bool}
theorem flat_struct {n t k : Nat} {fs : Array Field} {cs : List Value} {x : DataW H × List MemPlace} (he : P.underlying t = some (.struct fs)) (hB : flatB P n t = true) (hC : P.cellsOf t = (flat P n t).length) (h : DataW.trod enc P w 0 spare held k t cs = some x) (hs : Small x.1) :
    ∀ (j : Nat) (u : TypeId), (flat P n t)[j]? = some u → ∃ (m : Nat) (v : Value) (y : DataW H × List MemPlace), cs[j]? = some v ∧ DataW.trod enc P w 0 spare held m u [v] = some y ∧ Small y.1 := by
  obtain ⟨_, _, _, _, hlen, _, _⟩ := DataW.trod_struct he h
  exact flat_cells n t k cs x hB (hlen.trans hC) h hs
end
section
variable {H : Type} {enc : TypeId × Value → H} {w : World} {spare : Nat → Bool} {held : Bool}
theorem ty_read {n : Nat} {cs : List Value} {y : DataW H × List MemPlace} (h : DataW.trod enc Try.prog w 0 spare held n 62 cs = some y) (hs : Small y.1) : ∃ a : TyD, (∀ j, j < 2 → cs[j]? = some (a.enc j)) ∧ True := by
  have hf := flat_struct (n := 3) Try.underlying62 (by kernel_rfl) (by kernel_rfl) h hs
  obtain ⟨m0, v0, y0, c0, h0, z0⟩ := hf 0 _ rfl
  obtain ⟨i0, rfl, o0⟩ := int_cell h0
  obtain ⟨m1, v1, y1, c1, h1, z1⟩ := hf 1 _ rfl
  obtain ⟨i1, rfl⟩ := bool_cell h1
  refine ⟨⟨i0, i1⟩, fun j hj => ?_, trivial⟩
  match j, hj with
  | 0, _ => exact c0
  | 1, _ => exact c1
  | _ + 2, hj => exact absurd hj (by omega)
theorem tys_of {n : Nat} {v : Value} {x : DataW H × List MemPlace} (h : DataW.trod enc Try.prog w 0 spare held n 22 [v] = some x) (hs : Small x.1) : ∃ l : List TyD, Sl w 2 TyD.enc v l ∧ (∀ a ∈ l, True) ∧ l.length ≤ 1048576 ∧ Sn v :=
  sl_of_small 2 TyD.enc (fun a => True) Try.underlying22 (by kernel_rfl) (by omega) (fun n cs' y hy hz => ty_read hy hz) h hs
theorem ints_of {n : Nat} {v : Value} {x : DataW H × List MemPlace} (h : DataW.trod enc Try.prog w 0 spare held n 27 [v] = some x) (hs : Small x.1) : ∃ l : List Int, Sl w 1 iEnc v l ∧ (∀ a ∈ l, okI a) ∧ l.length ≤ 1048576 ∧ Sn v :=
  sl_of_small 1 iEnc (fun a => okI a) Try.underlying27 (by kernel_rfl) (by omega) (fun n cs' y hy hz => by
    obtain ⟨i, h1, _, h2⟩ := DataW.trod_int Try.underlying3 hy
    refine ⟨i, fun j hj => ?_, ok_of_wf h2⟩
    obtain rfl : j = 0 := by omega
    rw [h1]; rfl) h hs
theorem int64s_of {n : Nat} {v : Value} {x : DataW H × List MemPlace} (h : DataW.trod enc Try.prog w 0 spare held n 23 [v] = some x) (hs : Small x.1) : ∃ l : List Int, Sl w 1 iEnc v l ∧ (∀ a ∈ l, okI a) ∧ l.length ≤ 1048576 ∧ Sn v :=
  sl_of_small 1 iEnc (fun a => okI a) Try.underlying23 (by kernel_rfl) (by omega) (fun n cs' y hy hz => by
    obtain ⟨i, h1, _, h2⟩ := DataW.trod_int Try.underlying2 hy
    refine ⟨i, fun j hj => ?_, ok_of_wf h2⟩
    obtain rfl : j = 0 := by omega
    rw [h1]; rfl) h hs
theorem tr_read {n : Nat} {cs : List Value} {y : DataW H × List MemPlace} (h : DataW.trod enc Try.prog w 0 spare held n 40 cs = some y) (hs : Small y.1) : ∃ a : TrD, (∀ j, j < 9 → cs[j]? = some (a.enc j)) ∧ a.ok w := by
  have hf := flat_struct (n := 3) Try.underlying40 (by kernel_rfl) (by kernel_rfl) h hs
  obtain ⟨m0, v0, y0, c0, h0, z0⟩ := hf 0 _ rfl
  obtain ⟨i0, rfl, o0⟩ := int_cell h0
  obtain ⟨m1, v1, y1, c1, h1, z1⟩ := hf 1 _ rfl
  obtain ⟨i1, rfl, o1⟩ := int_cell h1
  obtain ⟨m2, v2, y2, c2, h2, z2⟩ := hf 2 _ rfl
  obtain ⟨i2, rfl, o2⟩ := int_cell h2
  obtain ⟨m3, v3, y3, c3, h3, z3⟩ := hf 3 _ rfl
  obtain ⟨i3, rfl, o3⟩ := int_cell h3
  obtain ⟨m4, v4, y4, c4, h4, z4⟩ := hf 4 _ rfl
  obtain ⟨l4, s4, q4, t4, u4⟩ := ints_of h4 z4
  obtain ⟨m5, v5, y5, c5, h5, z5⟩ := hf 5 _ rfl
  obtain ⟨l5, s5, q5, t5, u5⟩ := ints_of h5 z5
  obtain ⟨m6, v6, y6, c6, h6, z6⟩ := hf 6 _ rfl
  obtain ⟨i6, rfl, o6⟩ := str_cell h6
  obtain ⟨m7, v7, y7, c7, h7, z7⟩ := hf 7 _ rfl
  obtain ⟨i7, rfl, o7⟩ := int_cell h7
  obtain ⟨m8, v8, y8, c8, h8, z8⟩ := hf 8 _ rfl
  obtain ⟨i8, rfl, o8⟩ := int_cell h8
  refine ⟨⟨i0, i1, i2, i3, v4, v5, i6, i7, i8, l4, l5⟩, fun j hj => ?_, ⟨o0, o1, o2, o3, o7, o8, o6, s4, q4, u4, t4, s5, q5, t5⟩⟩
  match j, hj with
  | 0, _ => exact c0
  | 1, _ => exact c1
  | 2, _ => exact c2
  | 3, _ => exact c3
  | 4, _ => exact c4
  | 5, _ => exact c5
  | 6, _ => exact c6
  | 7, _ => exact c7
  | 8, _ => exact c8
  | _ + 9, hj => exact absurd hj (by omega)
theorem trs_of {n : Nat} {v : Value} {x : DataW H × List MemPlace} (h : DataW.trod enc Try.prog w 0 spare held n 33 [v] = some x) (hs : Small x.1) : ∃ l : List TrD, Sl w 9 TrD.enc v l ∧ (∀ a ∈ l, a.ok w) ∧ l.length ≤ 1048576 ∧ Sn v :=
  sl_of_small 9 TrD.enc (fun a => a.ok w) Try.underlying33 (by kernel_rfl) (by omega) (fun n cs' y hy hz => tr_read hy hz) h hs
theorem slice_cs {n t e : Nat} {cs : List Value} {x : DataW H × List MemPlace} (ht : Try.prog.underlying t = some (.slice e)) (h : DataW.trod enc Try.prog w 0 spare held n t cs = some x) : ∃ v, cs = [v] := by
  rcases open_slice ht h with ⟨h0, _⟩ | ⟨a, len, cap, m, n, D, Pl, hcs, _⟩
  · exact ⟨_, h0⟩
  · exact ⟨_, hcs⟩
theorem ess_of {n : Nat} {v : Value} {x : DataW H × List MemPlace} (h : DataW.trod enc Try.prog w 0 spare held n 34 [v] = some x) (hs : Small x.1) : ∃ l : List EsD, Sl w 1 EsD.enc v l ∧ (∀ a ∈ l, a.ok w) ∧ l.length ≤ 1048576 ∧ Sn v :=
  sl_of_small 1 EsD.enc (fun a => a.ok w) Try.underlying34 (by kernel_rfl) (by omega) (fun n cs' y hy hz => by
    obtain ⟨v, rfl⟩ := slice_cs Try.underlying33 hy
    obtain ⟨l, hl, hq, ht, hn⟩ := trs_of hy hz
    refine ⟨⟨v, l⟩, fun j hj => ?_, hl, hq, ht, hn⟩
    obtain rfl : j = 0 := by omega
    rfl) h hs
theorem lo_read {n : Nat} {cs : List Value} {y : DataW H × List MemPlace} (h : DataW.trod enc Try.prog w 0 spare held n 36 cs = some y) (hs : Small y.1) : ∃ a : LoD, (∀ j, j < 7 → cs[j]? = some (a.enc j)) ∧ a.ok w := by
  have hf := flat_struct (n := 3) Try.underlying36 (by kernel_rfl) (by kernel_rfl) h hs
  obtain ⟨m0, v0, y0, c0, h0, z0⟩ := hf 0 _ rfl
  obtain ⟨l0, s0, q0, t0, u0⟩ := trs_of h0 z0
  obtain ⟨m1, v1, y1, c1, h1, z1⟩ := hf 1 _ rfl
  obtain ⟨l1, s1, q1, t1, u1⟩ := ess_of h1 z1
  obtain ⟨m2, v2, y2, c2, h2, z2⟩ := hf 2 _ rfl
  obtain ⟨i2, rfl⟩ := bool_cell h2
  obtain ⟨m3, v3, y3, c3, h3, z3⟩ := hf 3 _ rfl
  obtain ⟨i3, rfl⟩ := bool_cell h3
  obtain ⟨m4, v4, y4, c4, h4, z4⟩ := hf 4 _ rfl
  obtain ⟨i4, rfl⟩ := bool_cell h4
  obtain ⟨m5, v5, y5, c5, h5, z5⟩ := hf 5 _ rfl
  obtain ⟨i5, rfl⟩ := bool_cell h5
  obtain ⟨m6, v6, y6, c6, h6, z6⟩ := hf 6 _ rfl
  obtain ⟨i6, rfl⟩ := bool_cell h6
  refine ⟨⟨v0, v1, i2, i3, i4, i5, i6, l0, l1⟩, fun j hj => ?_, ⟨s0, q0, u0, t0, s1, q1, u1, t1⟩⟩
  match j, hj with
  | 0, _ => exact c0
  | 1, _ => exact c1
  | 2, _ => exact c2
  | 3, _ => exact c3
  | 4, _ => exact c4
  | 5, _ => exact c5
  | 6, _ => exact c6
  | _ + 7, hj => exact absurd hj (by omega)
theorem los_of {n : Nat} {v : Value} {x : DataW H × List MemPlace} (h : DataW.trod enc Try.prog w 0 spare held n 24 [v] = some x) (hs : Small x.1) : ∃ l : List LoD, Sl w 7 LoD.enc v l ∧ (∀ a ∈ l, a.ok w) ∧ l.length ≤ 1048576 ∧ Sn v :=
  sl_of_small 7 LoD.enc (fun a => a.ok w) Try.underlying24 (by kernel_rfl) (by omega) (fun n cs' y hy hz => lo_read hy hz) h hs
theorem pr_read {n : Nat} {cs : List Value} {y : DataW H × List MemPlace} (h : DataW.trod enc Try.prog w 0 spare held n 26 cs = some y) (hs : Small y.1) : ∃ a : PrD, (∀ j, j < 10 → cs[j]? = some (a.enc j)) ∧ a.ok w := by
  have hf := flat_struct (n := 3) Try.underlying26 (by kernel_rfl) (by kernel_rfl) h hs
  obtain ⟨m0, v0, y0, c0, h0, z0⟩ := hf 0 _ rfl
  obtain ⟨i0, rfl, o0⟩ := str_cell h0
  obtain ⟨m1, v1, y1, c1, h1, z1⟩ := hf 1 _ rfl
  obtain ⟨i1, rfl, o1⟩ := int_cell h1
  obtain ⟨m2, v2, y2, c2, h2, z2⟩ := hf 2 _ rfl
  obtain ⟨l2, s2, q2, t2, u2⟩ := tys_of h2 z2
  obtain ⟨m3, v3, y3, c3, h3, z3⟩ := hf 3 _ rfl
  obtain ⟨l3, s3, q3, t3, u3⟩ := int64s_of h3 z3
  obtain ⟨m4, v4, y4, c4, h4, z4⟩ := hf 4 _ rfl
  obtain ⟨l4, s4, q4, t4, u4⟩ := los_of h4 z4
  obtain ⟨m5, v5, y5, c5, h5, z5⟩ := hf 5 _ rfl
  obtain ⟨i5, rfl, o5⟩ := int_cell h5
  obtain ⟨m6, v6, y6, c6, h6, z6⟩ := hf 6 _ rfl
  obtain ⟨i6, rfl, o6⟩ := int_cell h6
  obtain ⟨m7, v7, y7, c7, h7, z7⟩ := hf 7 _ rfl
  obtain ⟨i7, rfl, o7⟩ := int_cell h7
  obtain ⟨m8, v8, y8, c8, h8, z8⟩ := hf 8 _ rfl
  obtain ⟨i8, rfl, o8⟩ := int_cell h8
  obtain ⟨m9, v9, y9, c9, h9, z9⟩ := hf 9 _ rfl
  obtain ⟨i9, rfl, o9⟩ := int_cell h9
  refine ⟨⟨i0, i1, v2, v3, v4, i5, i6, i7, i8, i9, l2, l3, l4⟩, fun j hj => ?_, ⟨o1, o5, o6, o7, o8, o9, s2, t2, s3, q3, t3, s4, q4, t4⟩⟩
  match j, hj with
  | 0, _ => exact c0
  | 1, _ => exact c1
  | 2, _ => exact c2
  | 3, _ => exact c3
  | 4, _ => exact c4
  | 5, _ => exact c5
  | 6, _ => exact c6
  | 7, _ => exact c7
  | 8, _ => exact c8
  | 9, _ => exact c9
  | _ + 10, hj => exact absurd hj (by omega)
theorem proc_of {r : Reach} {b0 : Nat} {v : Value} {d : DataW H} {p : List MemPlace} (hv : Value.okWide Try.prog w r b0 26 v) (h : DataW.Trod enc Try.prog w 0 spare held 26 v d p) (hs : Small d) : ∃ M : PrD, v = M.val ∧ M.ok w := by
  obtain ⟨cs, rfl, hsz⟩ := okWide_struct Try.underlying26 hv
  obtain ⟨fuel, hf0⟩ := h
  obtain ⟨_, _, _, _, hlen, _, _⟩ := DataW.trod_struct Try.underlying26 hf0
  obtain ⟨M, hM, hok⟩ := pr_read hf0 hs
  refine ⟨M, ?_, hok⟩
  obtain ⟨l⟩ := cs
  rw [show Try.prog.cellsOf 26 = 10 by kernel_rfl] at hlen
  have c0 := hM 0 (by omega)
  have c1 := hM 1 (by omega)
  have c2 := hM 2 (by omega)
  have c3 := hM 3 (by omega)
  have c4 := hM 4 (by omega)
  have c5 := hM 5 (by omega)
  have c6 := hM 6 (by omega)
  have c7 := hM 7 (by omega)
  have c8 := hM 8 (by omega)
  have c9 := hM 9 (by omega)
  simp only [Value.cells] at hlen c0 c1 c2 c3 c4 c5 c6 c7 c8 c9
  match l, hlen with
  | [x0, x1, x2, x3, x4, x5, x6, x7, x8, x9], _ =>
    simp at c0 c1 c2 c3 c4 c5 c6 c7 c8 c9
    rw [c0, c1, c2, c3, c4, c5, c6, c7, c8, c9]; rfl
theorem more_of {r : Reach} {b0 : Nat} {v : Value} {d : DataW H} {p : List MemPlace} (hv : Value.okWide Try.prog w r b0 27 v) (h : DataW.Trod enc Try.prog w 0 spare held 27 v d p) (hs : Small d) : ∃ l : List Int, Sl w 1 iEnc v l ∧ (∀ a ∈ l, okI a) ∧ l.length ≤ 1048576 ∧ Sn v := by
  obtain ⟨fuel, hf0⟩ := h
  have hc : v.cells.toList = [v] := by
    cases v with
    | agg cs =>
      exfalso
      unfold Value.okWide at hv
      rw [Try.underlying27] at hv
      simp [Cell.okWide, Cell.ok, Try.underlying27] at hv
    | _ => rfl
  rw [hc] at hf0
  exact ints_of (x := (d, p)) hf0 hs
end
end Go.Proofs.Ytioacgjggogflab

/- Part of the proof of CompileForCardSaid. -/
import Derived.Test.YthhgndcpeeifeaaGreatDoorE15
import Derived.Test.YthhgndcpeeifeaaGreatDoorE25
import Derived.Test.YthhgndcpeeifeaaGreatDoorRows
import Derived.WalkKit
import Derived.ProofKit
import Derived.OpenShut
import Derived.ShutString
import Derived.SliceStrings
import Derived.LaidMore
import Derived.Deep.DeepHandedRow
import Derived.Lib.LaidTab
import Derived.Shelf.Vars
set_option linter.unusedVariables false
set_option linter.unusedSimpArgs false
set_option linter.unusedSectionVars false
set_option linter.constructorNameAsVariable false
namespace Go.Ev
open Go Go.RowKit
variable {r : DV}
noncomputable def numI (b : Id) : Nat := 8 * d8n b.d4 + d8n b.d5
theorem id_num {b : Id} (h : inBr b = true) : b = idOf (numI b) ∧ numI b < 64 := by
  obtain ⟨h1, h2, h3⟩ := inBr_ok h
  obtain ⟨d1, d2, d3, d4, d5⟩ := b
  simp only at h1 h2 h3
  subst h1; subst h2; subst h3
  cases d4 <;> cases d5 <;> exact ⟨rfl, of_decide_eq_true rfl⟩
theorem num_id {n : Nat} (h : n < 64) : numI (idOf n) = n := by
  have : ∀ m : Fin 64, numI (idOf m.val) = m.val := by decide +kernel
  exact this ⟨n, h⟩
section
variable {P : Program}
def objN : AObj → Nat
  | .c _ _ n _ => n
  | _ => 0
def objE : AObj → TypeId
  | .c _ e _ _ => e
  | _ => 0
def rowSz (W : World) (a : Nat) : Nat := match W.heap[a]? with
  | some (.cells cs _ _) => cs.size
  | _ => 0
/-- Where the tables lie. -/
noncomputable def Rn.start (pl : List (Nat × Nat)) (T : T8 (T8 AObj)) (W : World) (sy : Nat → Value) : Rn :=
  ⟨fun b => if inBr b = true then (pl[numI b]?).map (·.1) else none, fun b => rowSz W ((pl[numI b]?).getD (0, 0)).1 - ((pl[numI b]?).getD (0, 0)).2, fun b => objN (hat b (onlyT T).t), fun b => objE (hat b (onlyT T).t), sy, W, fun b => ((pl[numI b]?).getD (0, 0)).2⟩
/-- A table's row holds what is said of it. -/
def HoldsT (P : Program) (ρ : Rn) (W : World) (a o : Nat) : AObj → Prop
  | .no => True
  | .c own _ n t => own = false ∧ n ≤ t.room ∧ ∃ cs e' f, W.heap[a]? = some (.cells cs e' f) ∧ o + n ≤ cs.size ∧ ∀ j, j < n → ∃ v, cs[o + j]? = some v ∧ RV P ρ (t.get j) v
  | _ => False
theorem start_sim {T : T8 (T8 AObj)} {pl : List (Nat × Nat)} {W : World} {sy : Nat → Value} (kn : Known sy) (hlen : pl.length ≤ 64)
    (hg : ∀ g (h : g < P.globals.size), pl[g]? = some (g, 0) ∧ rowSz W g = P.cellsOf P.globals[g].type) (hlt : ∀ (n a o : Nat), pl[n]? = some (a, o) → a < W.heap.size)
    (hh : ∀ (n a o : Nat), n < 64 → pl[n]? = some (a, o) → HoldsT P (Rn.start pl T W sy) W a o (hat (idOf n) (onlyT T).t)) : Sim P W.heap.size (Rn.start pl T W sy) (onlyT T) W := by
  have blk : ∀ b a, (Rn.start pl T W sy).blk b = some a → inBr b = true ∧ ∃ o, pl[numI b]? = some (a, o) := by
    intro b a hb
    have hb' : (if inBr b = true then (pl[numI b]?).map (·.1) else none) = some a := hb
    split at hb'
    · rename_i h1
      refine ⟨h1, ?_⟩
      cases hp : pl[numI b]? with
      | none => rw [hp] at hb'; cases hb'
      | some p => rw [hp] at hb'; cases hb'; exact ⟨p.2, rfl⟩
    · cases hb'
  have own : ∀ b a, (Rn.start pl T W sy).blk b = some a → ¬ Own (onlyT T) b := by
    intro b a hb ho
    obtain ⟨h1, o, h2⟩ := blk b a hb
    obtain ⟨e1, e2⟩ := id_num h1
    have := hh _ a o e2 h2
    rw [← e1] at this
    unfold Own at ho
    rcases ho with ⟨e, n, t, q⟩ | ⟨es, k, q⟩ | ⟨e, k, q⟩ <;> rw [q] at this
    · exact absurd this.1 (by decide)
    · exact this
    · exact this
  refine ⟨Nat.le_refl _, fun b a hb => ?_, fun b a hb => ?_, fun b c a hb _ ob _ => absurd ob (own b a hb), fun n h1 h2 => ?_, fun g hg' => ?_, kn, fun i _ => rfl, fun g hg' => ?_, fun b a hb ho => ?_⟩
  · obtain ⟨_, o, h2⟩ := blk b a hb
    exact hlt _ _ _ h2
  · obtain ⟨h1, o, h2⟩ := blk b a hb
    obtain ⟨e1, e2⟩ := id_num h1
    have := hh _ a o e2 h2
    rw [← e1] at this
    have ho : (Rn.start pl T W sy).off b = o := by show ((pl[numI b]?).getD (0, 0)).2 = o; rw [h2]; rfl
    have hc : (Rn.start pl T W sy).csz b = rowSz W a - o := by show rowSz W ((pl[numI b]?).getD (0, 0)).1 - ((pl[numI b]?).getD (0, 0)).2 = _; rw [h2]; rfl
    cases hob : hat b (onlyT T).t with
    | no => trivial
    | c own e n t =>
      rw [hob] at this
      obtain ⟨t1, t2, cs, e', ⟨lo, hi⟩, t3, t4, t5⟩ := this
      refine ⟨by show objN (hat b (onlyT T).t) = n; rw [hob]; rfl, by show objE (hat b (onlyT T).t) = e; rw [hob]; rfl, t2, cs, lo, hi, ⟨e', t3, fun q => ?_⟩, ?_, by rw [ho]; exact t4, fun j hj => by rw [ho]; exact t5 j hj, fun q => absurd t1 (by rw [q]; decide)⟩
      · rcases q with q | q
        · rw [t1] at q; cases q
        · rw [h1] at q; cases q
      · rw [ho, hc]
        have : rowSz W a = cs.size := by unfold rowSz; rw [t3]
        omega
    | m es k => rw [hob] at this; exact this.elim
    | bs e k => rw [hob] at this; exact this.elim
  · have h1' : 64 ≤ n := h1
    show (if inBr (idOf n) = true then (pl[numI (idOf n)]?).map (·.1) else none) = none
    rw [if_neg fun hb => by have := inBr_ge hb h2; omega]
  · have hg64 : g < 64 := by
      have := (hg g hg').1
      have := (List.getElem?_eq_some_iff.1 this).1
      omega
    show (if inBr (idOf g) = true then (pl[numI (idOf g)]?).map (·.1) else none) = some g
    rw [if_pos (inBr_lt hg64), num_id hg64, (hg g hg').1]; rfl
  · have hg64 : g < 64 := by
      have := (hg g hg').1
      have := (List.getElem?_eq_some_iff.1 this).1
      omega
    have e0 : ((pl[numI (idOf g)]?).getD (0, 0)) = (g, 0) := by rw [num_id hg64, (hg g hg').1]; rfl
    refine ⟨?_, by show ((pl[numI (idOf g)]?).getD (0, 0)).2 = 0; rw [e0]⟩
    show rowSz W ((pl[numI (idOf g)]?).getD (0, 0)).1 - ((pl[numI (idOf g)]?).getD (0, 0)).2 = _
    rw [e0]
    exact (hg g hg').2
  · obtain ⟨h1, o, h2⟩ := blk b a hb
    rcases ho with ho | ho
    · exact absurd ho (own b a hb)
    · rw [h1] at ho; cases ho
end
end Go.Ev
namespace Go.Ev
open Go Go.RowKit Go.Proofs Go.Proofs.YthhgndcpeeifeaaGreatDoor Go.ChangeShapes Go.WideShapes Go.ChangeAt
/-! the tables -/
noncomputable def ob0 : AObj := .c false 247 256 (CT.lay (spaceN.map fun z => .i .u8 (.ofNat z)) 0 CT.z)
noncomputable def ob2 : AObj := .c false 40 1 (CT.lay [.sl ⟨.a, .a, .a, .b, .e⟩ 0 10] 0 CT.z)
noncomputable def ob3 : AObj := .c false 40 1 (CT.lay [.sl ⟨.a, .a, .a, .b, .f⟩ 0 4] 0 CT.z)
noncomputable def ob4 : AObj := .c false 3 1 (CT.lay [.y 4] 0 CT.z)
noncomputable def ob5 : AObj := .c false 40 1 (CT.lay [.sl ⟨.a, .a, .a, .b, .g⟩ 0 24] 0 CT.z)
noncomputable def ob6 : AObj := .c false 40 1 (CT.lay [.sl ⟨.a, .a, .a, .b, .h⟩ 0 38] 0 CT.z)
noncomputable def ob7 : AObj := .c false 426 20 (CT.lay [.sl ⟨.a, .a, .a, .c, .a⟩ 0 1, .i .i64 (.ofNat 23), .sl ⟨.a, .a, .a, .c, .b⟩ 0 1, .i .i64 (.ofNat 22), .sl ⟨.a, .a, .a, .c, .c⟩ 0 1, .i .i64 (.ofNat 21), .sl ⟨.a, .a, .a, .c, .d⟩ 0 1, .i .i64 (.ofNat 20), .sl ⟨.a, .a, .a, .c, .e⟩ 0 1, .i .i64 (.ofNat 19), .sl ⟨.a, .a, .a, .c, .f⟩ 0 2, .i .i64 (.ofNat 17), .sl ⟨.a, .a, .a, .c, .g⟩ 0 4, .i .i64 (.ofNat 13), .sl ⟨.a, .a, .a, .c, .h⟩ 0 2, .i .i64 (.ofNat 11), .sl ⟨.a, .a, .a, .d, .a⟩ 0 2, .i .i64 (.ofNat 9), .sl ⟨.a, .a, .a, .d, .b⟩ 0 3, .i .i64 (.ofNat 6)] 0 CT.z)
noncomputable def ob8 : AObj := .c false 439 20 (CT.lay (pow10N.map fun z => .i .u64 (.ofNat z)) 0 CT.z)
noncomputable def ob12 : AObj := .c false 9 10 (CT.lay [.s 0 0, .s 3 7629154, .s 4 1819242338, .s 4 1702132066, .s 5 500136110195, .s 3 7630441, .s 8 7234309766870429301, .s 5 435678704749, .s 3 6580592, .s 4 1851877475] 0 CT.z)
noncomputable def ob13 : AObj := .c false 9 4 (CT.lay [.s 0 0, .s 6 121381755054440, .s 4 2003789939, .s 5 465490374508] 0 CT.z)
noncomputable def ob14 : AObj := .c false 9 24 (CT.lay [.s 0 0, .s 0 0, .s 0 0, .s 1 45, .s 1 33, .s 1 126, .s 1 42, .s 1 47, .s 1 37, .s 1 43, .s 1 45, .s 2 15420, .s 2 15934, .s 1 60, .s 2 15676, .s 1 62, .s 2 15678, .s 2 15677, .s 2 15649, .s 1 38, .s 1 94, .s 1 124, .s 2 9766, .s 2 31868] 0 CT.z)
noncomputable def ob15 : AObj := .c false 9 38 (CT.lay [.s 0 0, .s 0 0, .s 0 0, .s 0 0, .s 0 0, .s 0 0, .s 0 0, .s 0 0, .s 0 0, .s 0 0, .s 0 0, .s 0 0, .s 0 0, .s 0 0, .s 0 0, .s 0 0, .s 0 0, .s 0 0, .s 0 0, .s 0 0, .s 0 0, .s 0 0, .s 0 0, .s 0 0, .s 0 0, .s 3 7234924, .s 4 1819047270, .s 5 521644567909, .s 5 465676101230, .s 6 133541009384814, .s 0 0, .s 4 1684631647, .s 5 500151970911, .s 6 125826963238495, .s 3 6254702, .s 7 32780218601924980, .s 7 28259013852491365, .s 8 7310868735959458672] 0 CT.z)
noncomputable def ob16 : AObj := .c false 9 1 (CT.lay [.s 2 31868] 0 CT.z)
noncomputable def ob17 : AObj := .c false 9 1 (CT.lay [.s 2 9766] 0 CT.z)
noncomputable def ob18 : AObj := .c false 9 1 (CT.lay [.s 1 124] 0 CT.z)
noncomputable def ob19 : AObj := .c false 9 1 (CT.lay [.s 1 94] 0 CT.z)
noncomputable def ob20 : AObj := .c false 9 1 (CT.lay [.s 1 38] 0 CT.z)
noncomputable def ob21 : AObj := .c false 9 2 (CT.lay [.s 2 15677, .s 2 15649] 0 CT.z)
noncomputable def ob22 : AObj := .c false 9 4 (CT.lay [.s 1 60, .s 2 15676, .s 1 62, .s 2 15678] 0 CT.z)
noncomputable def ob23 : AObj := .c false 9 2 (CT.lay [.s 2 15420, .s 2 15934] 0 CT.z)
noncomputable def ob24 : AObj := .c false 9 2 (CT.lay [.s 1 43, .s 1 45] 0 CT.z)
noncomputable def ob25 : AObj := .c false 9 3 (CT.lay [.s 1 42, .s 1 47, .s 1 37] 0 CT.z)
noncomputable def T0 : T8 (T8 AObj) :=
  ⟨⟨ob0, .no, ob2, ob3, ob4, ob5, ob6, ob7⟩,
    ⟨ob8, .no, .no, .no, ob12, ob13, ob14, ob15⟩,
    ⟨ob16, ob17, ob18, ob19, ob20, ob21, ob22, ob23⟩,
    ⟨ob24, ob25, .no, .no, .no, .no, .no, .no⟩,
    e1,
    e1,
    e1,
    e1⟩
def typesS : List ByteArray := [⟨#[]⟩, ⟨#[98, 105, 116]⟩, ⟨#[98, 111, 111, 108]⟩, ⟨#[98, 121, 116, 101]⟩, ⟨#[115, 104, 111, 114, 116]⟩, ⟨#[105, 110, 116]⟩, ⟨#[117, 110, 115, 105, 103, 110, 101, 100]⟩, ⟨#[109, 116, 121, 112, 101]⟩, ⟨#[112, 105, 100]⟩, ⟨#[99, 104, 97, 110]⟩]
def showsS : List ByteArray := [⟨#[]⟩, ⟨#[104, 105, 100, 100, 101, 110]⟩, ⟨#[115, 104, 111, 119]⟩, ⟨#[108, 111, 99, 97, 108]⟩]
def marksS : List ByteArray := [⟨#[]⟩, ⟨#[]⟩, ⟨#[]⟩, ⟨#[45]⟩, ⟨#[33]⟩, ⟨#[126]⟩, ⟨#[42]⟩, ⟨#[47]⟩, ⟨#[37]⟩, ⟨#[43]⟩, ⟨#[45]⟩, ⟨#[60, 60]⟩, ⟨#[62, 62]⟩, ⟨#[60]⟩, ⟨#[60, 61]⟩, ⟨#[62]⟩, ⟨#[62, 61]⟩, ⟨#[61, 61]⟩, ⟨#[33, 61]⟩, ⟨#[38]⟩, ⟨#[94]⟩, ⟨#[124]⟩, ⟨#[38, 38]⟩, ⟨#[124, 124]⟩]
def wordsS : List ByteArray := [⟨#[]⟩, ⟨#[]⟩, ⟨#[]⟩, ⟨#[]⟩, ⟨#[]⟩, ⟨#[]⟩, ⟨#[]⟩, ⟨#[]⟩, ⟨#[]⟩, ⟨#[]⟩, ⟨#[]⟩, ⟨#[]⟩, ⟨#[]⟩, ⟨#[]⟩, ⟨#[]⟩, ⟨#[]⟩, ⟨#[]⟩, ⟨#[]⟩, ⟨#[]⟩, ⟨#[]⟩, ⟨#[]⟩, ⟨#[]⟩, ⟨#[]⟩, ⟨#[]⟩, ⟨#[]⟩, ⟨#[108, 101, 110]⟩, ⟨#[102, 117, 108, 108]⟩, ⟨#[101, 109, 112, 116, 121]⟩, ⟨#[110, 102, 117, 108, 108]⟩, ⟨#[110, 101, 109, 112, 116, 121]⟩, ⟨#[]⟩, ⟨#[95, 112, 105, 100]⟩, ⟨#[95, 108, 97, 115, 116]⟩, ⟨#[95, 110, 114, 95, 112, 114]⟩, ⟨#[110, 112, 95]⟩, ⟨#[116, 105, 109, 101, 111, 117, 116]⟩, ⟨#[101, 110, 97, 98, 108, 101, 100]⟩, ⟨#[112, 99, 95, 118, 97, 108, 117, 101]⟩]
def levelS : List (List ByteArray × Int) := [([⟨#[124, 124]⟩], 23), ([⟨#[38, 38]⟩], 22), ([⟨#[124]⟩], 21), ([⟨#[94]⟩], 20), ([⟨#[38]⟩], 19), ([⟨#[61, 61]⟩, ⟨#[33, 61]⟩], 17), ([⟨#[60]⟩, ⟨#[60, 61]⟩, ⟨#[62]⟩, ⟨#[62, 61]⟩], 13), ([⟨#[60, 60]⟩, ⟨#[62, 62]⟩], 11), ([⟨#[43]⟩, ⟨#[45]⟩], 9), ([⟨#[42]⟩, ⟨#[47]⟩, ⟨#[37]⟩], 6)]
/-! what the rows' list and the world's shape say -/
theorem gN0 : Tryz.prog.globalNamed "strings.asciiSpace" = some 0 := by kernel_rfl
theorem gN2 : Tryz.prog.globalNamed "spinneret/syntax.types" = some 2 := by kernel_rfl
theorem gN3 : Tryz.prog.globalNamed "spinneret/syntax.shows" = some 3 := by kernel_rfl
theorem gN5 : Tryz.prog.globalNamed "spinneret/print.marks" = some 5 := by kernel_rfl
theorem gN6 : Tryz.prog.globalNamed "spinneret/print.words" = some 6 := by kernel_rfl
theorem gN7 : Tryz.prog.globalNamed "spinneret/syntax.levels" = some 7 := by kernel_rfl
theorem gN8 : Tryz.prog.globalNamed "internal/strconv.uint64pow10" = some 8 := by kernel_rfl
theorem gT0 : (Tryz.prog.globals[0]?).map (·.type) = some 247 := by kernel_rfl
theorem gT2 : (Tryz.prog.globals[2]?).map (·.type) = some 40 := by kernel_rfl
theorem gT3 : (Tryz.prog.globals[3]?).map (·.type) = some 40 := by kernel_rfl
theorem gT5 : (Tryz.prog.globals[5]?).map (·.type) = some 40 := by kernel_rfl
theorem gT6 : (Tryz.prog.globals[6]?).map (·.type) = some 40 := by kernel_rfl
theorem gT7 : (Tryz.prog.globals[7]?).map (·.type) = some 426 := by kernel_rfl
theorem gT8 : (Tryz.prog.globals[8]?).map (·.type) = some 439 := by kernel_rfl
/-- Strings told as bytes. -/
def litsL (L : List ByteArray) : List (DataW Unit) := L.map fun l => .lit (.string l.data.toList)
theorem strs_inj : ∀ {ss L : List ByteArray}, (strs ss : List (DataW Unit)) = litsL L → ss = L
  | [], [], _ => rfl
  | [], _ :: _, h => by simp [strs, litsL] at h
  | _ :: _, [], h => by simp [strs, litsL] at h
  | s :: ss, l :: L, h => by
    simp only [strs, litsL, List.map_cons, List.cons.injEq] at h
    obtain ⟨h1, h2⟩ := h
    injection h1 with h1
    injection h1 with h1
    have h3 : s = l := ByteArray.ext (Array.toList_inj.1 h1)
    rw [h3, strs_inj (ss := ss) (L := L) h2]
/-- A slice of strings that was laid. -/
theorem laid_strs {w : World} {fuel : Nat} {cs : List Value} {L : List ByteArray} {p : List MemPlace} (hL : 0 < L.length) (h : DataW.trod (fun _ => ()) Tryz.prog w 0 (fun _ => true) false fuel 40 cs = some (.slice (litsL L) [], p)) :
    ∃ b o, cs = [.slice (some ⟨b, o, none⟩) L.length L.length] ∧ b < w.heap.size ∧ ∀ j, j < L.length → w.cell? ⟨b, o + j, none⟩ = some (.string (L.getD j default)) := by
  rcases open_strings Tryz.underlying40 Tryz.underlying9 (by kernel_rfl) h with ⟨_, h1⟩ | ⟨a, len, cap, ss, rfl, _, h1, _, h2, h3, h4, _⟩
  · cases h1
  · simp only [Prod.mk.injEq, DataW.slice.injEq] at h3
    obtain ⟨⟨h5, h6⟩, _⟩ := h3
    simp only [if_true] at h2
    have h7 := strs_inj h5.symm
    have h8 : ss.drop len = [] := by
      cases hd : ss.drop len with
      | nil => rfl
      | cons x l => rw [hd] at h6; simp [strs] at h6
    have h9 : ss.length ≤ len := by simpa using h8
    have h10 : len = cap := by omega
    have h11 : ss = L := by rw [← h7, List.take_of_length_le h9]
    subst h11
    subst h10
    rw [← h2]
    have h12 := h4 0 hL
    obtain ⟨b, o, sp⟩ := a
    have hs : sp = none := by
      cases sp with
      | none => rfl
      | some x => simp [Addr.add, World.cell?] at h12; split at h12 <;> simp at h12
    subst hs
    refine ⟨b, o, rfl, ?_, fun j hj => ?_⟩
    · rcases Nat.lt_or_ge b w.heap.size with h | h
      · exact h
      · simp [Addr.add, World.cell?, Array.getElem?_eq_none h] at h12
    · have h13 := h4 j hj
      rw [add_eq] at h13
      exact h13
theorem head_at {cs : List Value} {i : Nat} {n : Nat} {v : Value} (h : ((cs.drop i).take 2 |>.drop n).take 1 = [v]) (hn : n < 2) : cs[i + n]? = some v := by
  have h1 := congrArg (fun l => l[0]?) h
  simpa [List.getElem?_take, List.getElem?_drop, hn] using h1
def lvS (k : Nat) : List ByteArray × Int := levelS.getD k ([], 0)
theorem levelsEq : (Rows.laid_spinneret_syntax_levels : DataW Unit) = .agg ((List.range 10).map fun k => .agg [.slice (litsL (lvS k).1) [], .lit (.int .i64 (lvS k).2)]) := by kernel_rfl
theorem lvS_pos : ∀ k, k < 10 → 0 < (lvS k).1.length := by
  have : ∀ k : Fin 10, 0 < (lvS k.val).1.length := by decide +kernel
  exact fun k hk => this ⟨k, hk⟩
theorem laid_levels {w : World} {fuel : Nat} {cs : List Value} {p : List MemPlace} (h : DataW.trod (fun _ => ()) Tryz.prog w 0 (fun _ => true) false fuel 426 cs = some (Rows.laid_spinneret_syntax_levels, p)) (k : Nat) (hk : k < 10) :
    ∃ b o, cs[2 * k]? = some (.slice (some ⟨b, o, none⟩) (lvS k).1.length (lvS k).1.length) ∧ cs[2 * k + 1]? = some (.int .i64 (lvS k).2) ∧ b < w.heap.size ∧ ∀ j, j < (lvS k).1.length → w.cell? ⟨b, o + j, none⟩ = some (.string ((lvS k).1.getD j default)) := by
  rw [levelsEq] at h
  obtain ⟨xs, m, _, hx, _, hl, hf⟩ := DataW.trod_array Tryz.underlying426 h
  simp only [Prod.mk.injEq, DataW.agg.injEq] at hx
  have h1 := hf k hk
  rw [show Tryz.prog.cellsOf 425 = 2 by kernel_rfl] at h1
  have h2 : (xs.map (·.1))[k]? = some (.agg [.slice (litsL (lvS k).1) [], .lit (.int .i64 (lvS k).2)]) := by
    rw [← hx.1, List.getElem?_map, List.getElem?_range hk]
    rfl
  rw [List.getElem?_map] at h2
  cases hy : xs[k]? with
  | none => rw [hy] at h2; cases h2
  | some y =>
    rw [hy] at h1 h2
    obtain ⟨y0, y1, n, rfl, _, h3, h4⟩ := trod_struct2 Tryz.underlying425 h1
    simp only [Option.map_some, Option.some.injEq, DataW.agg.injEq, List.cons.injEq, and_true] at h2
    obtain ⟨h5, h6⟩ := h2
    obtain ⟨d0, q0⟩ := y0
    obtain ⟨d1, q1⟩ := y1
    simp only at h5 h6 h3 h4
    subst h5; subst h6
    rw [show Tryz.prog.cellsOf 40 = 1 by kernel_rfl] at h3
    rw [show Tryz.prog.cellsOf 3 = 1 by kernel_rfl] at h4
    obtain ⟨b, o, e, hb, hc⟩ := laid_strs (lvS_pos k hk) h3
    obtain ⟨z, e2, e3, _⟩ := DataW.trod_int Tryz.underlying3 h4
    simp only [Prod.mk.injEq, DataW.lit.injEq, Lit.int.injEq, true_and] at e3
    have g1 := head_at e (by decide)
    have g2 := head_at e2 (by decide)
    rw [← e3.1] at g2
    rw [Nat.mul_comm] at g1 g2
    exact ⟨b, o, g1, g2, hb, hc⟩
theorem typesEq : (Rows.laid_spinneret_syntax_types : DataW Unit) = .slice (litsL typesS) [] := by kernel_rfl
theorem showsEq : (Rows.laid_spinneret_syntax_shows : DataW Unit) = .slice (litsL showsS) [] := by kernel_rfl
theorem marksEq : (Rows.laid_spinneret_print_marks : DataW Unit) = .slice (litsL marksS) [] := by kernel_rfl
theorem wordsEq : (Rows.laid_spinneret_print_words : DataW Unit) = .slice (litsL wordsS) [] := by kernel_rfl
theorem spaceEq : (Rows.laid_strings_asciiSpace : DataW Unit) = Lib.tabData .u8 Lib.asciiSpaceTab := by kernel_rfl
theorem pow10Eq : (Rows.laid_internal_strconv_uint64pow10 : DataW Unit) = Lib.tabData .u64 Lib.pow10Tab := by kernel_rfl
/-- The cells of a variable that lies in the heap. -/
theorem row_of_shape {W : World} {g : Nat} {zero : Array Value} {t : TypeId} (h : W.ShapedOpen Tryz.prog) (hg : g < Tryz.prog.globals.size) (h0 : ((begin Tryz.prog (fun _ _ => 0) default).world.heap[g]?).bind Obj.row? = some (zero, t)) :
    ∃ cs, W.heap[g]? = some (.cells cs t (0, 0)) ∧ cs.size = zero.size := by
  obtain ⟨cs, h1, h2, _⟩ := h.1 g zero t hg h0
  exact ⟨cs, h1, h2⟩
theorem cells_of_shape {W : World} {g : Nat} {cs' : Array Value} {t : TypeId} {cs : Array Value} {n : String} (h1 : W.heap[g]? = some (.cells cs' t (0, 0))) (hn : Tryz.prog.globalNamed n = some g) (hv : W.var? Tryz.prog n = some cs) : cs = cs' := by
  unfold World.var? at hv
  rw [hn, Option.bind_some, h1] at hv
  injection hv with hv
  exact hv.symm
theorem maxLenCell {W : World} (h : W.ShapedOpen Tryz.prog) : ∃ m, W.cell? ⟨4, 0, none⟩ = some (.int .i64 m) :=
  Go.Proofs.cell_of_shapedOpen_int (zero := #[.int .i64 0]) (t := 3) h (of_decide_eq_true (by kernel_rfl)) (by kernel_rfl) rfl (by kernel_rfl) (by kernel_rfl) Tryz.underlying3
/-! rows and slices of the tables -/
theorem heap_of_cell {W : World} {b o : Nat} {v : Value} (h : W.cell? ⟨b, o, none⟩ = some v) : ∃ cs e f, W.heap[b]? = some (.cells cs e f) ∧ cs[o]? = some v := by
  unfold World.cell? at h
  cases hb : W.heap[b]? with
  | none => rw [hb] at h; cases h
  | some ob =>
    rw [hb] at h
    cases ob with
    | cells cs e f => exact ⟨cs, e, f, rfl, h⟩
    | _ => cases h
def sAV (s : ByteArray) : AV := .s s.data.toList.length (encB s.data.toList)
theorem rowS {ρ : Rn} {W : World} {b o e : Nat} {L : List ByteArray} {l : List AV} (hl : l = L.map sAV) (hpos : 0 < L.length) (h4 : L.length ≤ 4096) (hc : ∀ j, j < L.length → W.cell? ⟨b, o + j, none⟩ = some (.string (L.getD j default))) {n : Nat} (hn : n = L.length) :
    HoldsT Tryz.prog ρ W b o (.c false e n (CT.lay l 0 CT.z)) ∧ o + n ≤ rowSz W b := by
  have hlen : l.length = L.length := by rw [hl]; simp
  obtain ⟨r1, r2⟩ := lay_new l (by omega)
  obtain ⟨cs, e', f, h1, h2⟩ := heap_of_cell (hc 0 hpos)
  have hall : ∀ j, j < L.length → cs[o + j]? = some (.string (L.getD j default)) := fun j hj => by
    obtain ⟨cs', e2, f2, g1, g2⟩ := heap_of_cell (hc j hj)
    rw [h1] at g1; cases g1; exact g2
  have hsz : o + L.length ≤ cs.size := by
    have := (Array.getElem?_eq_some_iff.1 (hall (L.length - 1) (by omega))).1
    omega
  subst hn
  refine ⟨⟨rfl, by omega, cs, e', f, h1, hsz, fun j hj => ⟨_, hall j hj, ?_⟩⟩, by unfold rowSz; rw [h1]; exact hsz⟩
  rw [r2 j (by omega), hl]
  have : (L.map sAV).getD j .u = sAV (L.getD j default) := by simp [List.getD, hj]
  rw [this]
  simp only [sAV, RV]
  exact ⟨_, rfl, rfl, rfl⟩
theorem slT {pl : List (Nat × Nat)} {W : World} {sy : Nat → Value} {k m b o : Nat} {l : CT} (hk : k < 64) (hp : pl[k]? = some (b, o)) (ho : hat (idOf k) (onlyT T0).t = .c false 9 m l) (hsz : o + m ≤ rowSz W b) :
    RV Tryz.prog (Rn.start pl T0 W sy) (.sl (idOf k) 0 m) (.slice (some ⟨b, o, none⟩) m m) := by
  have hn := num_id hk
  have e0 : ((pl[numI (idOf k)]?).getD (0, 0)) = (b, o) := by rw [hn, hp]; rfl
  have c9 : Tryz.prog.cellsOf 9 = 1 := by kernel_rfl
  have hoff : (Rn.start pl T0 W sy).off (idOf k) = o := by show ((pl[numI (idOf k)]?).getD (0, 0)).2 = o; rw [e0]
  have hcsz : (Rn.start pl T0 W sy).csz (idOf k) = rowSz W b - o := by show rowSz W ((pl[numI (idOf k)]?).getD (0, 0)).1 - ((pl[numI (idOf k)]?).getD (0, 0)).2 = _; rw [e0]
  have hty : (Rn.start pl T0 W sy).ty (idOf k) = 9 := by show objE (hat (idOf k) (onlyT T0).t) = 9; rw [ho]; rfl
  have hext : (Rn.start pl T0 W sy).ext (idOf k) = m := by show objN (hat (idOf k) (onlyT T0).t) = m; rw [ho]; rfl
  have hblk : (Rn.start pl T0 W sy).blk (idOf k) = some b := by
    show (if inBr (idOf k) = true then (pl[numI (idOf k)]?).map (·.1) else none) = some b
    rw [if_pos (inBr_lt hk), hn, hp]; rfl
  simp only [RV]
  refine ⟨b, _, m, hblk, rfl, Nat.le_refl _, .inl ⟨by rw [hoff, Nat.add_zero], ?_, ?_⟩⟩
  · rw [hty, hcsz, c9]; omega
  · rw [hty, hext, c9]; omega
theorem one_cell {ρ : Rn} {W : World} {g e : Nat} {v : AV} {x : Value} {cs : Array Value} {t : TypeId} (h : W.heap[g]? = some (.cells cs t (0, 0))) (hc : cs[0]? = some x) (rv : RV Tryz.prog ρ v x) : HoldsT Tryz.prog ρ W g 0 (.c false e 1 (CT.lay [v] 0 CT.z)) := by
  obtain ⟨r1, r2⟩ := lay_new [v] (by simp)
  have := (Array.getElem?_eq_some_iff.1 hc).1
  refine ⟨rfl, r1, cs, t, (0, 0), h, by omega, fun j hj => ?_⟩
  obtain rfl : j = 0 := by omega
  refine ⟨x, by simpa using hc, ?_⟩
  rw [r2 0 (by simp)]; exact rv
theorem tab_holds {ρ : Rn} {W : World} {g e : Nat} {kd : IntKind} {zs : List Nat} {cs : Array Value} {t : TypeId} (h : W.heap[g]? = some (.cells cs t (0, 0))) (hc : cs.toList = (zs.map fun z => ((z : Nat) : Int)).map fun z => Value.int kd z) (h4 : zs.length ≤ 4096) {n : Nat} (hn : n = zs.length) :
    HoldsT Tryz.prog ρ W g 0 (.c false e n (CT.lay (zs.map fun z => .i kd (.ofNat z)) 0 CT.z)) := by
  obtain ⟨r1, r2⟩ := lay_new (zs.map fun z => AV.i kd (.ofNat z)) (by simpa using h4)
  have hsz : cs.size = zs.length := by rw [← Array.length_toList, hc]; simp
  subst hn
  refine ⟨rfl, by simpa using r1, cs, t, (0, 0), h, by omega, fun j hj => ?_⟩
  refine ⟨.int kd zs[j], ?_, ?_⟩
  · rw [Nat.zero_add, ← Array.getElem?_toList, hc]
    simp [hj]
  · rw [r2 j (by simpa using hj)]
    simp [List.getD, hj, RV]
theorem pow10_eq : (pow10N.map fun z => ((z : Nat) : Int)) = Lib.pow10Tab := by decide +kernel
set_option maxRecDepth 100000 in
/-- What the list and the shape give: the tables as an abstract heap. -/
theorem start_of {W : World} (h : laidMetH Tryz.prog Rows.compileForRow.laid W) (hs : W.ShapedOpen Tryz.prog) {A B : Nat} (hA : A < 2147483648) (hB : B < 2147483648) :
    ∃ ρ M, ρ.sy = den A B M ∧ Sim Tryz.prog W.heap.size ρ (onlyT T0) W := by
  unfold Rows.compileForRow at h
  simp only at h
  rw [MakeChecks.laidMetH_plain _ _ _ (by kernel_rfl)] at h
  obtain ⟨ps, ⟨_, _, _, _, _, _, _, _, _, _, ⟨_, _, _, _, _, _, _, _, _, _, ⟨g8, t8, cs8, f8, p8, q8, hg8, ht8, hv8, hd8, ⟨_, _, _, _, _, _, _, _, _, _, ⟨g0, t0, cs0, f0, p0, q0, hg0, ht0, hv0, hd0, ⟨g7, t7, cs7, f7, p7, q7, hg7, ht7, hv7, hd7,
    ⟨g2, t2, cs2, f2, p2, q2, hg2, ht2, hv2, hd2, ⟨g3, t3, cs3, f3, p3, q3, hg3, ht3, hv3, hd3, ⟨g5, t5, cs5, f5, p5, q5, hg5, ht5, hv5, hd5, ⟨g6, t6, cs6, f6, p6, q6, hg6, ht6, hv6, hd6, _, _⟩, _⟩, _⟩, _⟩, _⟩, _⟩, _⟩, _⟩, _⟩, _⟩, _, _⟩ := h
  obtain rfl := Option.some.inj (gN8.symm.trans hg8)
  obtain rfl := Option.some.inj (gT8.symm.trans ht8)
  obtain rfl := Option.some.inj (gN0.symm.trans hg0)
  obtain rfl := Option.some.inj (gT0.symm.trans ht0)
  obtain rfl := Option.some.inj (gN7.symm.trans hg7)
  obtain rfl := Option.some.inj (gT7.symm.trans ht7)
  obtain rfl := Option.some.inj (gN2.symm.trans hg2)
  obtain rfl := Option.some.inj (gT2.symm.trans ht2)
  obtain rfl := Option.some.inj (gN3.symm.trans hg3)
  obtain rfl := Option.some.inj (gT3.symm.trans ht3)
  obtain rfl := Option.some.inj (gN5.symm.trans hg5)
  obtain rfl := Option.some.inj (gT5.symm.trans ht5)
  obtain rfl := Option.some.inj (gN6.symm.trans hg6)
  obtain rfl := Option.some.inj (gT6.symm.trans ht6)
  have lt12 : ∀ g, g < 12 → g < Tryz.prog.globals.size := fun g hg => by
    have : Tryz.prog.globals.size = 12 := by kernel_rfl
    omega
  -- the blocks of the variables
  have hrow : ∀ (g : Nat) (hg : g < Tryz.prog.globals.size), ∃ cs, W.heap[g]? = some (.cells cs Tryz.prog.globals[g].type (0, 0)) ∧ cs.size = Tryz.prog.cellsOf Tryz.prog.globals[g].type := by
    have key : ∀ g : Fin 12, ((begin Tryz.prog (fun _ _ => 0) default).world.heap[g.val]?).bind Obj.row? = some ((((begin Tryz.prog (fun _ _ => 0) default).world.heap[g.val]?).bind Obj.row?).getD default |>.1, (Tryz.prog.globals[g.val]?.map (·.type)).getD 0) ∧
        ((((begin Tryz.prog (fun _ _ => 0) default).world.heap[g.val]?).bind Obj.row?).getD default |>.1).size = Tryz.prog.cellsOf ((Tryz.prog.globals[g.val]?.map (·.type)).getD 0) := by
      intro g
      match g with
      | ⟨0, _⟩ | ⟨1, _⟩ | ⟨2, _⟩ | ⟨3, _⟩ | ⟨4, _⟩ | ⟨5, _⟩ | ⟨6, _⟩ | ⟨7, _⟩ | ⟨8, _⟩ | ⟨9, _⟩ | ⟨10, _⟩ | ⟨11, _⟩ => exact ⟨by kernel_rfl, by kernel_rfl⟩
    intro g hg
    have hg12 : g < 12 := by
      have : Tryz.prog.globals.size = 12 := by kernel_rfl
      omega
    obtain ⟨h1, h2⟩ := key ⟨g, hg12⟩
    have e0 : (Tryz.prog.globals[g]?.map (·.type)).getD 0 = Tryz.prog.globals[g].type := by rw [Array.getElem?_eq_getElem hg]; rfl
    simp only [e0] at h1 h2
    obtain ⟨cs, h3, h4⟩ := row_of_shape hs hg h1
    exact ⟨cs, h3, h4.trans h2⟩
  have hblk : ∀ {g : Nat} {n : String} {cs : Array Value} {t : TypeId}, g < 12 → Tryz.prog.globalNamed n = some g → (Tryz.prog.globals[g]?).map (·.type) = some t → W.var? Tryz.prog n = some cs → W.heap[g]? = some (.cells cs t (0, 0)) := by
    intro g n cs t hg hn ht hv
    obtain ⟨cs', h1, _⟩ := hrow g (lt12 g hg)
    have := cells_of_shape h1 hn hv
    subst this
    rw [Array.getElem?_eq_getElem (lt12 g hg)] at ht
    simp only [Option.map_some, Option.some.injEq] at ht
    rw [← ht]; exact h1
  have k0 := hblk (by decide) hg0 ht0 hv0
  have k2 := hblk (by decide) hg2 ht2 hv2
  have k3 := hblk (by decide) hg3 ht3 hv3
  have k5 := hblk (by decide) hg5 ht5 hv5
  have k6 := hblk (by decide) hg6 ht6 hv6
  have k7 := hblk (by decide) hg7 ht7 hv7
  have k8 := hblk (by decide) hg8 ht8 hv8
  obtain ⟨m, hm⟩ := maxLenCell hs
  obtain ⟨cs4, ty4, fz4, k4, c4⟩ := heap_of_cell hm
  have k4' : ∃ t, W.heap[4]? = some (.cells cs4 t (0, 0)) := by
    obtain ⟨cs', h1, _⟩ := hrow 4 (lt12 4 (by decide))
    rw [k4] at h1
    simp only [Option.some.injEq, Obj.cells.injEq] at h1
    exact ⟨ty4, by rw [k4, h1.2.2]⟩
  obtain ⟨t4, k4'⟩ := k4'
  rw [typesEq] at hd2
  rw [showsEq] at hd3
  rw [marksEq] at hd5
  rw [wordsEq] at hd6
  rw [spaceEq] at hd0
  rw [pow10Eq] at hd8
  obtain ⟨b2, o2, e2, hb2, hc2⟩ := laid_strs (by decide) hd2
  obtain ⟨b3, o3, e3, hb3, hc3⟩ := laid_strs (by decide) hd3
  obtain ⟨b5, o5, e5, hb5, hc5⟩ := laid_strs (by decide) hd5
  obtain ⟨b6, o6, e6, hb6, hc6⟩ := laid_strs (by decide) hd6
  have z0 := Lib.cells_of_tab Tryz.underlying247 Tryz.underlying5 (by kernel_rfl) (by kernel_rfl) hd0
  have z8 := Lib.cells_of_tab Tryz.underlying439 Tryz.underlying74 (by kernel_rfl) (by kernel_rfl) hd8
  have lv := fun k hk => laid_levels hd7 k hk
  obtain ⟨f, hf⟩ : ∃ f : Nat → Nat × Nat, ∀ k, k < 10 → cs7.toList[2 * k]? = some (.slice (some ⟨(f k).1, (f k).2, none⟩) (lvS k).1.length (lvS k).1.length) ∧ cs7.toList[2 * k + 1]? = some (.int .i64 (lvS k).2) ∧ (f k).1 < W.heap.size ∧
      ∀ j, j < (lvS k).1.length → W.cell? ⟨(f k).1, (f k).2 + j, none⟩ = some (.string ((lvS k).1.getD j default)) := by
    have : ∀ k, ∃ y : Nat × Nat, k < 10 → cs7.toList[2 * k]? = some (.slice (some ⟨y.1, y.2, none⟩) (lvS k).1.length (lvS k).1.length) ∧ cs7.toList[2 * k + 1]? = some (.int .i64 (lvS k).2) ∧ y.1 < W.heap.size ∧
        ∀ j, j < (lvS k).1.length → W.cell? ⟨y.1, y.2 + j, none⟩ = some (.string ((lvS k).1.getD j default)) := by
      intro k
      by_cases hk : k < 10
      · obtain ⟨b, o, h1, h2, h3, h4⟩ := lv k hk
        exact ⟨(b, o), fun _ => ⟨h1, h2, h3, h4⟩⟩
      · exact ⟨(0, 0), fun q => absurd q hk⟩
    exact ⟨fun k => Classical.choose (this k), fun k => Classical.choose_spec (this k)⟩
  -- where all lies
  obtain ⟨pl, hpl⟩ : ∃ pl : List (Nat × Nat), pl = [(0, 0), (1, 0), (2, 0), (3, 0), (4, 0), (5, 0), (6, 0), (7, 0), (8, 0), (9, 0), (10, 0), (11, 0), (b2, o2), (b3, o3), (b5, o5), (b6, o6), f 0, f 1, f 2, f 3, f 4, f 5, f 6, f 7, f 8, f 9] := ⟨_, rfl⟩
  have rS := fun k hk => (hf k hk).2.2.2
  refine ⟨Rn.start pl T0 W (den A B m), m, rfl, start_sim ⟨A, B, m, hA, hB, rfl⟩ (by rw [hpl]; simp) ?_ ?_ ?_⟩
  · intro g hg
    have hg12 : g < 12 := by
      have : Tryz.prog.globals.size = 12 := by kernel_rfl
      omega
    obtain ⟨cs, h1, h2⟩ := hrow g hg
    refine ⟨?_, by unfold rowSz; rw [h1]; exact h2⟩
    rw [hpl]
    match g, hg12 with
    | 0, _ | 1, _ | 2, _ | 3, _ | 4, _ | 5, _ | 6, _ | 7, _ | 8, _ | 9, _ | 10, _ | 11, _ => rfl
    | g + 12, h => omega
  · intro n a o hn
    have h12 : ∀ g, g < 12 → g < W.heap.size := fun g hg => by
      obtain ⟨cs, h1, _⟩ := hrow g (lt12 g hg)
      exact (Array.getElem?_eq_some_iff.1 h1).1
    have fk := fun k hk => (hf k hk).2.2.1
    rw [hpl] at hn
    have hn26 : n < 26 := (List.getElem?_eq_some_iff.1 hn).1
    have h26 : n = 0 ∨ n = 1 ∨ n = 2 ∨ n = 3 ∨ n = 4 ∨ n = 5 ∨ n = 6 ∨ n = 7 ∨ n = 8 ∨ n = 9 ∨ n = 10 ∨ n = 11 ∨ n = 12 ∨ n = 13 ∨ n = 14 ∨ n = 15 ∨ n = 16 ∨ n = 17 ∨ n = 18 ∨ n = 19 ∨ n = 20 ∨ n = 21 ∨ n = 22 ∨ n = 23 ∨ n = 24 ∨ n = 25 := by omega
    rcases h26 with rfl | rfl | rfl | rfl | rfl | rfl | rfl | rfl | rfl | rfl | rfl | rfl | rfl | rfl | rfl | rfl | rfl | rfl | rfl | rfl | rfl | rfl | rfl | rfl | rfl | rfl
    iterate 12 (· cases hn; exact h12 _ (by decide))
    · cases hn; exact hb2
    · cases hn; exact hb3
    · cases hn; exact hb5
    · cases hn; exact hb6
    all_goals
      have hn' := Option.some.inj hn
      have e1 : a = (a, o).1 := rfl
      rw [e1, ← hn']
      exact fk _ (by decide)
  · intro n a o hn64 hn
    have hn' := hn
    rw [hpl] at hn'
    have hn26 : n < 26 := (List.getElem?_eq_some_iff.1 hn').1
    generalize hρ : Rn.start pl T0 W (den A B m) = ρ
    have r12 : HoldsT Tryz.prog ρ W b2 o2 ob12 ∧ _ := rowS (L := typesS) (by kernel_rfl) (by decide) (by decide) hc2 rfl
    have r13 : HoldsT Tryz.prog ρ W b3 o3 ob13 ∧ _ := rowS (L := showsS) (by kernel_rfl) (by decide) (by decide) hc3 rfl
    have r14 : HoldsT Tryz.prog ρ W b5 o5 ob14 ∧ _ := rowS (L := marksS) (by kernel_rfl) (by decide) (by decide) hc5 rfl
    have r15 : HoldsT Tryz.prog ρ W b6 o6 ob15 ∧ _ := rowS (L := wordsS) (by kernel_rfl) (by decide) (by decide) hc6 rfl
    have r16 : HoldsT Tryz.prog ρ W (f 0).1 (f 0).2 ob16 ∧ _ := rowS (L := (lvS 0).1) (by kernel_rfl) (by decide +kernel) (by decide +kernel) (rS 0 (by decide)) (by kernel_rfl)
    have r17 : HoldsT Tryz.prog ρ W (f 1).1 (f 1).2 ob17 ∧ _ := rowS (L := (lvS 1).1) (by kernel_rfl) (by decide +kernel) (by decide +kernel) (rS 1 (by decide)) (by kernel_rfl)
    have r18 : HoldsT Tryz.prog ρ W (f 2).1 (f 2).2 ob18 ∧ _ := rowS (L := (lvS 2).1) (by kernel_rfl) (by decide +kernel) (by decide +kernel) (rS 2 (by decide)) (by kernel_rfl)
    have r19 : HoldsT Tryz.prog ρ W (f 3).1 (f 3).2 ob19 ∧ _ := rowS (L := (lvS 3).1) (by kernel_rfl) (by decide +kernel) (by decide +kernel) (rS 3 (by decide)) (by kernel_rfl)
    have r20 : HoldsT Tryz.prog ρ W (f 4).1 (f 4).2 ob20 ∧ _ := rowS (L := (lvS 4).1) (by kernel_rfl) (by decide +kernel) (by decide +kernel) (rS 4 (by decide)) (by kernel_rfl)
    have r21 : HoldsT Tryz.prog ρ W (f 5).1 (f 5).2 ob21 ∧ _ := rowS (L := (lvS 5).1) (by kernel_rfl) (by decide +kernel) (by decide +kernel) (rS 5 (by decide)) (by kernel_rfl)
    have r22 : HoldsT Tryz.prog ρ W (f 6).1 (f 6).2 ob22 ∧ _ := rowS (L := (lvS 6).1) (by kernel_rfl) (by decide +kernel) (by decide +kernel) (rS 6 (by decide)) (by kernel_rfl)
    have r23 : HoldsT Tryz.prog ρ W (f 7).1 (f 7).2 ob23 ∧ _ := rowS (L := (lvS 7).1) (by kernel_rfl) (by decide +kernel) (by decide +kernel) (rS 7 (by decide)) (by kernel_rfl)
    have r24 : HoldsT Tryz.prog ρ W (f 8).1 (f 8).2 ob24 ∧ _ := rowS (L := (lvS 8).1) (by kernel_rfl) (by decide +kernel) (by decide +kernel) (rS 8 (by decide)) (by kernel_rfl)
    have r25 : HoldsT Tryz.prog ρ W (f 9).1 (f 9).2 ob25 ∧ _ := rowS (L := (lvS 9).1) (by kernel_rfl) (by decide +kernel) (by decide +kernel) (rS 9 (by decide)) (by kernel_rfl)
    have s12 := slT (sy := den A B m) (pl := pl) (k := 12) (by decide) (by rw [hpl]; rfl) rfl r12.2
    have s13 := slT (sy := den A B m) (pl := pl) (k := 13) (by decide) (by rw [hpl]; rfl) rfl r13.2
    have s14 := slT (sy := den A B m) (pl := pl) (k := 14) (by decide) (by rw [hpl]; rfl) rfl r14.2
    have s15 := slT (sy := den A B m) (pl := pl) (k := 15) (by decide) (by rw [hpl]; rfl) rfl r15.2
    have s16 := slT (sy := den A B m) (pl := pl) (k := 16) (b := (f 0).1) (o := (f 0).2) (by decide) (by rw [hpl]; rfl) rfl r16.2
    have s17 := slT (sy := den A B m) (pl := pl) (k := 17) (b := (f 1).1) (o := (f 1).2) (by decide) (by rw [hpl]; rfl) rfl r17.2
    have s18 := slT (sy := den A B m) (pl := pl) (k := 18) (b := (f 2).1) (o := (f 2).2) (by decide) (by rw [hpl]; rfl) rfl r18.2
    have s19 := slT (sy := den A B m) (pl := pl) (k := 19) (b := (f 3).1) (o := (f 3).2) (by decide) (by rw [hpl]; rfl) rfl r19.2
    have s20 := slT (sy := den A B m) (pl := pl) (k := 20) (b := (f 4).1) (o := (f 4).2) (by decide) (by rw [hpl]; rfl) rfl r20.2
    have s21 := slT (sy := den A B m) (pl := pl) (k := 21) (b := (f 5).1) (o := (f 5).2) (by decide) (by rw [hpl]; rfl) rfl r21.2
    have s22 := slT (sy := den A B m) (pl := pl) (k := 22) (b := (f 6).1) (o := (f 6).2) (by decide) (by rw [hpl]; rfl) rfl r22.2
    have s23 := slT (sy := den A B m) (pl := pl) (k := 23) (b := (f 7).1) (o := (f 7).2) (by decide) (by rw [hpl]; rfl) rfl r23.2
    have s24 := slT (sy := den A B m) (pl := pl) (k := 24) (b := (f 8).1) (o := (f 8).2) (by decide) (by rw [hpl]; rfl) rfl r24.2
    have s25 := slT (sy := den A B m) (pl := pl) (k := 25) (b := (f 9).1) (o := (f 9).2) (by decide) (by rw [hpl]; rfl) rfl r25.2
    rw [hρ] at s12 s13 s14 s15 s16 s17 s18 s19 s20 s21 s22 s23 s24 s25
    have h26 : n = 0 ∨ n = 1 ∨ n = 2 ∨ n = 3 ∨ n = 4 ∨ n = 5 ∨ n = 6 ∨ n = 7 ∨ n = 8 ∨ n = 9 ∨ n = 10 ∨ n = 11 ∨ n = 12 ∨ n = 13 ∨ n = 14 ∨ n = 15 ∨ n = 16 ∨ n = 17 ∨ n = 18 ∨ n = 19 ∨ n = 20 ∨ n = 21 ∨ n = 22 ∨ n = 23 ∨ n = 24 ∨ n = 25 := by omega
    rcases h26 with rfl | rfl | rfl | rfl | rfl | rfl | rfl | rfl | rfl | rfl | rfl | rfl | rfl | rfl | rfl | rfl | rfl | rfl | rfl | rfl | rfl | rfl | rfl | rfl | rfl | rfl
    · cases hn'; exact tab_holds k0 (by rw [space_eq]; exact z0) (by decide +kernel) (by kernel_rfl)
    · cases hn'; trivial
    · cases hn'; exact one_cell k2 (by rw [← Array.getElem?_toList, e2]; rfl) s12
    · cases hn'; exact one_cell k3 (by rw [← Array.getElem?_toList, e3]; rfl) s13
    · cases hn'; exact one_cell k4' c4 (by rw [← hρ]; simp only [RV]; exact ⟨rfl, trivial⟩)
    · cases hn'; exact one_cell k5 (by rw [← Array.getElem?_toList, e5]; rfl) s14
    · cases hn'; exact one_cell k6 (by rw [← Array.getElem?_toList, e6]; rfl) s15
    · cases hn'
      obtain ⟨l, hl⟩ : ∃ l : List AV, l = [.sl (idOf 16) 0 (lvS 0).1.length, .i .i64 (lvS 0).2, .sl (idOf 17) 0 (lvS 1).1.length, .i .i64 (lvS 1).2, .sl (idOf 18) 0 (lvS 2).1.length, .i .i64 (lvS 2).2, .sl (idOf 19) 0 (lvS 3).1.length, .i .i64 (lvS 3).2, .sl (idOf 20) 0 (lvS 4).1.length, .i .i64 (lvS 4).2, .sl (idOf 21) 0 (lvS 5).1.length, .i .i64 (lvS 5).2, .sl (idOf 22) 0 (lvS 6).1.length, .i .i64 (lvS 6).2, .sl (idOf 23) 0 (lvS 7).1.length, .i .i64 (lvS 7).2, .sl (idOf 24) 0 (lvS 8).1.length, .i .i64 (lvS 8).2, .sl (idOf 25) 0 (lvS 9).1.length, .i .i64 (lvS 9).2] := ⟨_, rfl⟩
      have h7 : hat (idOf 7) (onlyT T0).t = .c false 426 20 (CT.lay l 0 CT.z) := by rw [hl]; kernel_rfl
      have hl20 : l.length = 20 := by rw [hl]; rfl
      obtain ⟨x1, x2⟩ := lay_new l (by omega)
      rw [h7]
      refine ⟨rfl, by omega, cs7, 426, (0, 0), k7, ?_, fun j hj => ?_⟩
      · have := (List.getElem?_eq_some_iff.1 (hf 9 (by decide)).2.1).1
        simp at this; omega
      · rw [x2 j (by omega), Nat.zero_add]
        have h20 : j = 0 ∨ j = 1 ∨ j = 2 ∨ j = 3 ∨ j = 4 ∨ j = 5 ∨ j = 6 ∨ j = 7 ∨ j = 8 ∨ j = 9 ∨ j = 10 ∨ j = 11 ∨ j = 12 ∨ j = 13 ∨ j = 14 ∨ j = 15 ∨ j = 16 ∨ j = 17 ∨ j = 18 ∨ j = 19 := by omega
        rcases h20 with rfl | rfl | rfl | rfl | rfl | rfl | rfl | rfl | rfl | rfl | rfl | rfl | rfl | rfl | rfl | rfl | rfl | rfl | rfl | rfl
        · exact ⟨_, by rw [← Array.getElem?_toList]; exact (hf 0 (by decide)).1, by rw [hl]; exact s16⟩
        · exact ⟨_, by rw [← Array.getElem?_toList]; exact (hf 0 (by decide)).2.1, by rw [hl]; simp only [List.getD, List.getElem?_cons_succ, List.getElem?_cons_zero, Option.getD_some, RV]⟩
        · exact ⟨_, by rw [← Array.getElem?_toList]; exact (hf 1 (by decide)).1, by rw [hl]; exact s17⟩
        · exact ⟨_, by rw [← Array.getElem?_toList]; exact (hf 1 (by decide)).2.1, by rw [hl]; simp only [List.getD, List.getElem?_cons_succ, List.getElem?_cons_zero, Option.getD_some, RV]⟩
        · exact ⟨_, by rw [← Array.getElem?_toList]; exact (hf 2 (by decide)).1, by rw [hl]; exact s18⟩
        · exact ⟨_, by rw [← Array.getElem?_toList]; exact (hf 2 (by decide)).2.1, by rw [hl]; simp only [List.getD, List.getElem?_cons_succ, List.getElem?_cons_zero, Option.getD_some, RV]⟩
        · exact ⟨_, by rw [← Array.getElem?_toList]; exact (hf 3 (by decide)).1, by rw [hl]; exact s19⟩
        · exact ⟨_, by rw [← Array.getElem?_toList]; exact (hf 3 (by decide)).2.1, by rw [hl]; simp only [List.getD, List.getElem?_cons_succ, List.getElem?_cons_zero, Option.getD_some, RV]⟩
        · exact ⟨_, by rw [← Array.getElem?_toList]; exact (hf 4 (by decide)).1, by rw [hl]; exact s20⟩
        · exact ⟨_, by rw [← Array.getElem?_toList]; exact (hf 4 (by decide)).2.1, by rw [hl]; simp only [List.getD, List.getElem?_cons_succ, List.getElem?_cons_zero, Option.getD_some, RV]⟩
        · exact ⟨_, by rw [← Array.getElem?_toList]; exact (hf 5 (by decide)).1, by rw [hl]; exact s21⟩
        · exact ⟨_, by rw [← Array.getElem?_toList]; exact (hf 5 (by decide)).2.1, by rw [hl]; simp only [List.getD, List.getElem?_cons_succ, List.getElem?_cons_zero, Option.getD_some, RV]⟩
        · exact ⟨_, by rw [← Array.getElem?_toList]; exact (hf 6 (by decide)).1, by rw [hl]; exact s22⟩
        · exact ⟨_, by rw [← Array.getElem?_toList]; exact (hf 6 (by decide)).2.1, by rw [hl]; simp only [List.getD, List.getElem?_cons_succ, List.getElem?_cons_zero, Option.getD_some, RV]⟩
        · exact ⟨_, by rw [← Array.getElem?_toList]; exact (hf 7 (by decide)).1, by rw [hl]; exact s23⟩
        · exact ⟨_, by rw [← Array.getElem?_toList]; exact (hf 7 (by decide)).2.1, by rw [hl]; simp only [List.getD, List.getElem?_cons_succ, List.getElem?_cons_zero, Option.getD_some, RV]⟩
        · exact ⟨_, by rw [← Array.getElem?_toList]; exact (hf 8 (by decide)).1, by rw [hl]; exact s24⟩
        · exact ⟨_, by rw [← Array.getElem?_toList]; exact (hf 8 (by decide)).2.1, by rw [hl]; simp only [List.getD, List.getElem?_cons_succ, List.getElem?_cons_zero, Option.getD_some, RV]⟩
        · exact ⟨_, by rw [← Array.getElem?_toList]; exact (hf 9 (by decide)).1, by rw [hl]; exact s25⟩
        · exact ⟨_, by rw [← Array.getElem?_toList]; exact (hf 9 (by decide)).2.1, by rw [hl]; simp only [List.getD, List.getElem?_cons_succ, List.getElem?_cons_zero, Option.getD_some, RV]⟩
    · cases hn'; exact tab_holds k8 (by rw [pow10_eq]; exact z8) (by decide +kernel) (by kernel_rfl)
    · cases hn'; trivial
    · cases hn'; trivial
    · cases hn'; trivial
    · cases hn'; exact r12.1
    · cases hn'; exact r13.1
    · cases hn'; exact r14.1
    · cases hn'; exact r15.1
    · have q : f 0 = (a, o) := Option.some.inj hn'
      have r := r16.1
      rw [q] at r; exact r
    · have q : f 1 = (a, o) := Option.some.inj hn'
      have r := r17.1
      rw [q] at r; exact r
    · have q : f 2 = (a, o) := Option.some.inj hn'
      have r := r18.1
      rw [q] at r; exact r
    · have q : f 3 = (a, o) := Option.some.inj hn'
      have r := r19.1
      rw [q] at r; exact r
    · have q : f 4 = (a, o) := Option.some.inj hn'
      have r := r20.1
      rw [q] at r; exact r
    · have q : f 5 = (a, o) := Option.some.inj hn'
      have r := r21.1
      rw [q] at r; exact r
    · have q : f 6 = (a, o) := Option.some.inj hn'
      have r := r22.1
      rw [q] at r; exact r
    · have q : f 7 = (a, o) := Option.some.inj hn'
      have r := r23.1
      rw [q] at r; exact r
    · have q : f 8 = (a, o) := Option.some.inj hn'
      have r := r24.1
      rw [q] at r; exact r
    · have q : f 9 = (a, o) := Option.some.inj hn'
      have r := r25.1
      rw [q] at r; exact r
end Go.Ev

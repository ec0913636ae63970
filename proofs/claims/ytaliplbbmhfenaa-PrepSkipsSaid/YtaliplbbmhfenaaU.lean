/-
  PrepOnce: plain laws of the lists; append with what is known of the new row's block; Macros on a define.
-/
import Derived.Test.YtaliplbbmhfenaaT
namespace Go.Proofs.Ytaliplbbmhfenaa
open Go.MapKept Go.ChangeShapes Go.WideShapes Go.ChangeAt Go.RowKit Go.Deep Go.Joins Go.Instr
/-- append of tokens that are laid to a row of the call's own: the new row lies where the old one did, or in a new block. -/
theorem wpList_app {w : World} {ops : Array Oper} {rest : List Oper} {o : Oper} {a : Act} {Q : Exit → Act → World → Prop} (hgd : o.guard = none) (s x : Operand)
    (ho : o.op = .call { callee := .builtin .append, args := #[s, x], argTypes := #[22, 22] })
    (base : Nat) (v : Value) (n : Nat) (l1 : List TkD) (hs : a.eval s = v) (hown : w.ownsRow base 25 5 v n (fl l1))
    (v2 : Value) (l2 : List TkD) (hx : a.eval x = v2) (hsl : Sl w 5 TkD.enc v2 l2) (hn : Sn v2)
    (h63 : n + l2.length ≤ 1000000000) (hbase : base ≤ w.heap.size)
    (h : ∀ v' w', w'.ownsRow base 25 5 v' (n + l2.length) (fl (l1 ++ l2)) → w.grownBy w' v.ownBlock → (∀ g, v'.ownBlock = some g → v.ownBlock = some g ∨ w.heap.size ≤ g) → wpList Try.prog ops Q rest (a.put o.dst v') w') : wpList Try.prog ops Q (o :: rest) a w := by
  obtain ⟨i0, hi, hz0, hz1, hz2⟩ := info_parts Try.info25
  rcases hown.2 with ⟨hv, hn0⟩ | ⟨g, cap, cur, hv, hg, hh, hnc, hcm, r⟩
  · have hl1 : l1 = [] := by
      have := hown.1
      rw [hn0, fl_len] at this
      exact List.length_eq_zero_iff.1 (by omega)
    subst hl1; subst hn0
    refine wpList_append_tk hgd s x ho w.heap.size v 0 [] hs (by rw [hv]; exact World.ownsRow_nil _ _ _ _) v2 l2 hx hsl hn h63 (Nat.le_refl _) fun v' w' h1 h2 => h v' w' (own_base h1 hbase) h2 fun g hg => .inr (h1.lt g hg).1
  · by_cases hm : l2.length = 0
    · have hl2 : l2 = [] := List.length_eq_zero_iff.1 hm
      subst hl2
      obtain ⟨a2, cap2, rfl, hc2, hm2, _⟩ := hsl
      subst hv
      refine wpList_append_fits_any w hgd s x 22 ho base 25 i0 5 Try.underlying22 hi hz1 g n cap (fl l1) hs hown a2 0 cap2 [] hx rfl (fun e => ⟨rfl, by subst e; exact hn _ _ rfl⟩) (fun _ _ j u hu => by simp at hu) (fun u hu => by simp at hu) (by omega) fun w' h1 h2 => h _ w' (by simpa using h1) h2 fun g' hg' => .inl (by simpa [Value.ownBlock] using hg')
    · have hs' := hsl
      obtain ⟨a2, cap2, rfl, hc2, hm2, h4⟩ := hsl
      obtain ⟨b2, off2, rfl, _, _⟩ := h4 (by omega)
      refine wpList_append_lies w hgd s x 22 ho base 25 i0 _ 5 48 Try.underlying22 hi hz0 hz1 hz2 rfl (by omega) v n (fl l1) hs hown _ l2.length cap2 (fl l2) hx (fl_len _) (sl_cells hs') (fl_one' _) (by omega) (by unfold maxLen; omega) (by omega) hbase _ rfl fun g2 cap3 w' h1 h2 h3 _ => h _ w' (by rw [fl_app]; exact h1) h2 fun g' hg' => by
        obtain rfl : g2 = g' := by simpa [Value.ownBlock] using hg'
        exact h3.imp id (fun e => by omega)
def lineT (n : Int) (t : TkD) : TkD := { t with line := n }
/-- What a token says, but for where it stands. -/
def keyT (t : TkD) : Int × ByteArray × Int := (t.kind, t.text, t.n)
theorem alk_of_key {a b : List TkD} (h : a.map keyT = b.map keyT) : a.length = b.length ∧ ∀ i, i < a.length → Alk true (a.getD i default) (b.getD i default) := by
  have hl : a.length = b.length := by simpa using congrArg List.length h
  refine ⟨hl, fun i hi => ?_⟩
  have h1 : (a.map keyT)[i]? = (b.map keyT)[i]? := by rw [h]
  rw [List.getElem?_map, List.getElem?_map, List.getElem?_eq_getElem hi, List.getElem?_eq_getElem (by omega)] at h1
  simp only [Option.map_some, Option.some.injEq, keyT, Prod.mk.injEq] at h1
  rw [List.getD_eq_getElem?_getD, List.getD_eq_getElem?_getD, List.getElem?_eq_getElem hi, List.getElem?_eq_getElem (by omega)]
  exact ⟨h1.1, h1.2.1, h1.2.2, fun h => by cases h⟩
/-- The tokens as they stand themselves. -/
def plF (zz : ByteArray) (body : List TkD) (t : TkD) : List TkD := if usesB zz t then body else [t]
def plL (zz : ByteArray) (body l : List TkD) : List TkD := l.flatMap (plF zz body)
theorem plL_app (zz : ByteArray) (body a b : List TkD) : plL zz body (a ++ b) = plL zz body a ++ plL zz body b := by simp [plL]
theorem plL_one (zz : ByteArray) (body : List TkD) (t : TkD) : plL zz body [t] = plF zz body t := by simp [plL]
theorem key_ex (zz : ByteArray) (body l : List TkD) (n : Int) : (exL zz (body.map (lineT n)) l).map keyT = (plL zz body l).map keyT := by
  induction l with
  | nil => rfl
  | cons t l ih =>
    show ((exF zz (body.map (lineT n)) t) ++ exL zz (body.map (lineT n)) l).map keyT = ((plF zz body t) ++ plL zz body l).map keyT
    rw [List.map_append, List.map_append, ih]
    congr 1
    unfold exF plF
    split
    · rw [List.map_map, List.map_map]; rfl
    · rfl
theorem ex_len (zz : ByteArray) (B l : List TkD) : (exL zz B l).length ≤ l.length * (B.length + 1) ∧ usL zz l ≤ l.length := by
  induction l with
  | nil => exact ⟨Nat.zero_le _, Nat.zero_le _⟩
  | cons t l ih =>
    have e1 : exL zz B (t :: l) = exF zz B t ++ exL zz B l := rfl
    have e2 : usL zz (t :: l) ≤ usL zz l + 1 := by
      unfold usL
      rw [List.filter_cons]
      split <;> simp
    have e3 : (exF zz B t).length ≤ B.length + 1 := by
      unfold exF
      split <;> simp
    rw [e1, List.length_append, List.length_cons, Nat.add_mul, Nat.one_mul]
    omega

end Go.Proofs.Ytaliplbbmhfenaa

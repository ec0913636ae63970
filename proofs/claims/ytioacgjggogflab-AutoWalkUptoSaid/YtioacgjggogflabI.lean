/-
  slices.Clone of ways; the reference's fits.
-/
import Derived.Test.YtioacgjggogflabH
namespace Go.Proofs.Ytioacgjggogflab
open Go.ChangeShapes Go.WideShapes Go.ChangeAt Go.RowKit Go.Deep Go.Joins Go.Instr
set_option maxHeartbeats 2000000 in
theorem clone_any (v : Value) (l : List TrD) (w : World) (hs : Sl w 9 TrD.enc v l) (hn : Sn v) (hok : ∀ t ∈ l, t.ok w) (hl : l.length ≤ 1048576) :
    Calls Try.prog 14 #[v] w fun e w' => ∃ v', e = .returned v' ∧ Ow w' w.heap.size 40 9 TrD.enc v' l ∧ Below w.heap.size w w' := by
  have hs' := hs
  obtain ⟨aa, ca, rfl, ma, HA⟩ := sl_open hs
  have q33 : ∀ (w : World) (a : Option Addr) (n c n' c' : Nat), (binOp .eql 33 (.slice a n c) (.slice none n' c')).run Try.prog w = .ok (.bool a.isNone) w := fun w a n c n' c' => Lib.run_eql_slice_nil w _ _ a n c n' c' Try.underlying33
  have HS := Lib.hid hs'
  have HO1 : Hid (∀ x ∈ l, ∀ j, j < 9 → (TrD.enc x j).oneCell' = true) := fun x hx => tr_one (hok x hx)
  cases aa with
  | none =>
    have hl0 : l = [] := by
      cases l with
      | nil => rfl
      | cons y r =>
        obtain ⟨b, off, h2, -⟩ := HA.out (by simp)
        simp at h2
    subst hl0
    clear hs hs' HA hn hok
    go_enter Try.func14, Try.ntmps14
    go_wp2
    go_ret
    exact ⟨_, rfl, ow_nil _ _ _ _ _, Below.refl _ _⟩
  | some ad =>
    clear hs hs' HA hn hok
    go_enter Try.func14, Try.ntmps14
    go_wp2_with (at_builtin; refine wpList_app elt33 rfl _ _ rfl w.heap.size TrD.enc _ [] rfl (World.ownsRow_made w #[] 0 (Nat.le_refl _) (Nat.zero_le _) rfl) (.slice (some ad) l.length ca) l rfl (HS.out.keep ((Below.refl _ _).alloc (Nat.le_refl _) _)) (fun n c h => by simp at h) HO1.out (by simp; omega) (by simp) ?_)
    intro v' w1 hown hgrow
    have HO := Lib.hid (show Ow w1 w.heap.size 40 9 TrD.enc v' l from hown)
    have hB : Below w.heap.size w w1 := ((Below.refl _ w).alloc (Nat.le_refl _) _).grown hgrow (by simp) (by intro k hk; simp [Value.ownBlock] at hk; omega)
    clear hown hgrow
    obtain ⟨a1, c1, rfl⟩ := HO.out.slice
    go_wp2
    go_ret
    exact ⟨_, rfl, HO.out, hB⟩
/-- Does each way of a list lead to a place? -/
def toB (n : Nat) (l : List TrD) : Bool := l.all fun t => inF n t.to
def escB (n : Nat) (l : List EsD) : Bool := l.all fun e => toB n e.l
def loB (n : Nat) (x : LoD) : Bool := toB n x.out && escB n x.esc
/-- May it be walked? -/
def fitB (x : PrD) (more : List Int) : Bool := inF x.locs.length x.start && inF x.locs.length x.final && more.all (inF x.locs.length) && x.locs.all (loB x.locs.length)
theorem all_snoc {α : Type} [Inhabited α] (p : α → Bool) (l : List α) (k : Nat) (h : k < l.length) : (l.take (k + 1)).all p = ((l.take k).all p && p (l.getD k default)) := by
  rw [List.take_succ_eq_append_getElem h, List.all_append, List.getD_eq_getElem?_getD, List.getElem?_eq_getElem h]
  simp
structure LoD.sm (x : LoD) : Prop where
  on : Sn x.ov
  en : Sn x.ev
  oz : x.out.length ≤ 1048576
  ez : x.esc.length ≤ 1048576
  esc : ∀ t ∈ x.esc, t.l.length ≤ 1048576 ∧ Sn t.v
theorem inside_is (x : PrD) (i : Int) (r : Bool) (w : World) (hx : x.rd w) (h : Hid (inF x.locs.length i = r)) : Calls Try.prog 24 #[x.val, .int .i64 i] w fun e w' => e = .returned (.bool r) ∧ Below w.heap.size w w' := by
  have := inside_any x i w hx
  rwa [h.out] at this
end Go.Proofs.Ytioacgjggogflab

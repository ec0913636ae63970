/-
  tell, whatever done comes to; a relation of worlds that lets some blocks turn.
-/
import Derived.Test.YtaliplbbmhfenaaJ
namespace Go.Proofs.Ytaliplbbmhfenaa
open Go.MapKept Go.ChangeShapes Go.WideShapes Go.ChangeAt Go.RowKit Go.Deep Go.Joins Go.Instr
/-- Nothing but the blocks of S has turned. -/
structure OutsP (S : Nat → Prop) (w w' : World) : Prop where
  os : w'.os = w.os
  tape : w'.tape = w.tape
  output : w'.output = w.output
  size : w.heap.size ≤ w'.heap.size
  block : ∀ k, k < w.heap.size → ¬ S k → w'.heap[k]? = w.heap[k]?
theorem OutsP.of_below {S : Nat → Prop} {w w' : World} (h : Below w.heap.size w w') : OutsP S w w' := ⟨h.os, h.tape, h.output, h.size, fun k hk _ => h.block k hk⟩
theorem OutsP.refl (S : Nat → Prop) (w : World) : OutsP S w w := OutsP.of_below (Below.refl _ _)
theorem OutsP.drew {S : Nat → Prop} {w w' : World} (h : OutsP S w w') : OutsP S w w'.drew := ⟨h.os, h.tape, h.output, h.size, h.block⟩
theorem OutsP.alloc {S : Nat → Prop} {w w' : World} (h : OutsP S w w') (o : Obj) : OutsP S w (w'.alloc o) :=
  ⟨h.os, h.tape, h.output, by have := h.size; simp; omega, fun k hk h1 => (Below.heap_alloc _ _ _ (by have := h.size; omega)).trans (h.block k hk h1)⟩
theorem OutsP.grown {S : Nat → Prop} {w w' w'' : World} {row : Option Nat} (h : OutsP S w w') (hg : w'.grownBy w'' row) (hr : ∀ k, row = some k → S k ∨ w.heap.size ≤ k) : OutsP S w w'' :=
  ⟨hg.os.trans h.os, hg.tape.trans h.tape, hg.output.trans h.output, Nat.le_trans h.size hg.size, fun k hk h1 => (hg.block k (by have := h.size; omega) (fun e => by
    rcases hr k e.symm with h3 | h3
    · exact h1 h3
    · omega)).trans (h.block k hk h1)⟩
theorem OutsP.setCell {S : Nat → Prop} {w w' : World} (h : OutsP S w w') {p : Addr} (hp : S p.block ∨ w.heap.size ≤ p.block) (u : Value) : OutsP S w (w'.setCell p u) :=
  ⟨h.os, h.tape, h.output, by have := h.size; simpa [World.setCell] using this, fun k hk h1 => (Below.heap_setCell _ _ _ _ (fun e => by
    subst e
    rcases hp with h3 | h3
    · exact h1 h3
    · omega)).trans (h.block k hk h1)⟩
theorem OutsP.trans {S S' : Nat → Prop} {a b c : World} (h : OutsP S a b) (k : OutsP S' b c) (hr : ∀ x, S' x → S x ∨ a.heap.size ≤ x) : OutsP S a c :=
  ⟨k.os.trans h.os, k.tape.trans h.tape, k.output.trans h.output, Nat.le_trans h.size k.size, fun i hi h1 => (k.block i (by have := h.size; omega) (fun e => by
    rcases hr i e with h3 | h3
    · exact h1 h3
    · omega)).trans (h.block i hi h1)⟩
theorem OutsP.mono {S S' : Nat → Prop} {a b : World} (h : OutsP S a b) (hr : ∀ x, S x → S' x ∨ a.heap.size ≤ x) : OutsP S' a b :=
  ⟨h.os, h.tape, h.output, h.size, fun i hi h1 => h.block i hi (fun e => by
    rcases hr i e with h3 | h3
    · exact h1 h3
    · omega)⟩
theorem OutsP.below {S : Nat → Prop} {w w' : World} {B : Nat} (h : OutsP S w w') (hb : B ≤ w.heap.size) (h1 : ∀ k, S k → B ≤ k) : Below B w w' :=
  ⟨h.os, h.tape, h.output, h.size, fun k hk => h.block k (by omega) (fun e => by have := h1 k e; omega)⟩
theorem OutsP.of_outs {wb : Nat} {g : Option Nat} {w w' : World} (h : Outs wb g w w') : OutsP (fun k => k = wb ∨ g = some k) w w' :=
  ⟨h.os, h.tape, h.output, h.size, fun k hk h1 => h.block k hk (fun e => h1 (.inl e)) (fun e => h1 (.inr e))⟩
theorem OutsP.grownBy {S : Nat → Prop} {w w' : World} {row : Option Nat} (h : OutsP S w w') (hr : ∀ k, S k → row = some k ∨ w.heap.size ≤ k) : w.grownBy w' row :=
  ⟨h.os, h.tape, h.output, h.size, fun k hk h1 => h.block k hk (fun e => by
    rcases hr k e with h3 | h3
    · exact h1 h3.symm
    · omega)⟩
/-- A row of the call's own that lies in no block that turns. -/
theorem own_outs {S : Nat → Prop} {w w' : World} {base : Nat} {e : TypeId} {v : Value} {n size : Nat} {xs : List Value} (h : w.ownsRow base e size v n xs) (hb : OutsP S w w') (hv : ∀ g, v.ownBlock = some g → ¬ S g) : w'.ownsRow base e size v n xs := by
  obtain ⟨h1, h2⟩ := h
  refine ⟨h1, ?_⟩
  rcases h2 with h2 | ⟨g, cap, cur, hv', hg, hh, r⟩
  · exact Or.inl h2
  · refine Or.inr ⟨g, cap, cur, hv', hg, ?_, r⟩
    rw [hb.block g (lt_of_block hh) (hv g (by rw [hv']; rfl))]
    exact hh
/-- What doing comes to: tokens, so many uses more, and nothing else. -/
def DonePost (w : World) (wb : Nat) (inl : Bool) (kb : Nat) (op : Value) (us' : Int) (o : Value) (R : List TkD) (e : Ending) (w' : World) : Prop :=
  ∃ v', e = .returned v' ∧ w'.ownsRow w.heap.size 25 5 v' R.length (fl R) ∧ Wk w' wb inl kb op us' o ∧ OutsP (fun k => k = wb) w w'
def TellP (w : World) (base wb : Nat) (inl : Bool) (kb : Nat) (op : Value) (us' : Int) (o : Value) (lo R : List TkD) (e : Ending) (w' : World) : Prop :=
  e = .returned (.tuple #[]) ∧ ∃ o', Wk w' wb inl kb op us' o' ∧ w'.ownsRow base 25 5 o' (lo.length + R.length) (fl (lo ++ R)) ∧ OutsP (fun k => k = wb ∨ o.ownBlock = some k) w w' ∧ ∀ g, o'.ownBlock = some g → o.ownBlock = some g ∨ w.heap.size ≤ g
set_option maxHeartbeats 4000000 in
theorem tell_gen (l lo : List TkD) (aa : Option Addr) (n0 ca base wb kb : Nat) (inl : Bool) (op : Value) (us us' : Int) (o : Value) (w : World)
    (hdone : Calls Try.prog 27 #[.pointer (some ⟨wb, 0, none⟩), .slice aa n0 ca] w (DonePost w wb inl kb op us' o l))
    (hw : Wk w wb inl kb op us o) (hown : w.ownsRow base 25 5 o lo.length (fl lo)) (hbase : base ≤ w.heap.size) (hlen : lo.length + l.length ≤ 8192) :
    Calls Try.prog 16 #[.pointer (some ⟨wb, 0, none⟩), .slice aa n0 ca] w (TellP w base wb inl kb op us' o lo l) := by
  have hwb := hw.lt
  have HO := Lib.hid hown
  have hne := own_ne hown hw
  have HNE := Lib.hid hne
  have HD := Lib.hid hdone
  clear hw hown hdone hne
  go_enter Try.func16, Try.ntmps16
  go_wp2_with fail
  refine HD.out.mono ?_
  rintro e w1 ⟨v1, rfl, hown1, hW1, hB1⟩
  have HW1 := Lib.hid hW1
  have HO1 := Lib.hid (own_outs HO.out hB1 (fun g hg e => HNE.out (by rw [hg, e])))
  obtain ⟨a1, c1, rfl⟩ := own_slice hown1
  have HR1 := Lib.hid (own_lt hown1)
  have HSl := Lib.hid (sl_of_own hown1)
  have HR2 : Hid (∀ g, (Value.slice a1 l.length c1).ownBlock = some g → w.heap.size ≤ g) := fun g hg => (hown1.lt g hg).1
  have HB1 := Lib.hid hB1
  have hsz := hB1.size
  clear hown1 hB1 hW1
  go_wp2_with fail
  go_loopw [10] (fun i wr => ∃ (k : Nat) (o' : Value), k ≤ l.length ∧ i = .int .i64 k ∧ Hid (Wk wr wb inl kb op us' o') ∧ Hid (wr.ownsRow base 25 5 o' (lo.length + k) (fl (lo ++ l.take k))) ∧ Hid (Outs wb o.ownBlock w1 wr) ∧ Hid (∀ g, o'.ownBlock = some g → o.ownBlock = some g ∨ w1.heap.size ≤ g)) (fun i _ => l.length - (intOf i).toNat)
  case atStart => exact ⟨0, o, Nat.zero_le _, rfl, HW1, Lib.hid (show w1.ownsRow base 25 5 o (lo.length + 0) (fl (lo ++ l.take 0)) by simpa using HO1.out), Outs.of_below (Below.refl _ _), fun g hg => .inl hg⟩
  case round =>
    obtain ⟨k, o', hk, rfl, hw, hown, hout, hob⟩ := hrel
    by_cases hlt : k < l.length
    · have hn0 : lo.length + k < 8192 := by omega
      have hlen2 : (lo ++ l.take k).length = lo.length + k := by simp; omega
      generalize hnn : lo.length + k = n at *
      obtain ⟨_, _, e, _, hx⟩ := sl_open HSl.out
      injection e with e1 e2 e3
      subst e1; subst e3
      obtain ⟨b, off, rfl, hb, hc⟩ := hx.out (by omega)
      have hbw : w.heap.size ≤ b := HR2.out b rfl
      have hbne : o.ownBlock ≠ some b := fun h => by have := own_lt HO.out b h; omega
      have cc := tk_cells (w := wr) (b := b) (off := off + k * 5) fun j hj => (World.cell?_of_block (w := w1) (w' := wr) (hout.out.block b hb (by omega) hbne)).trans (hc k hlt j hj)
      have HT := Lib.hid (take_snoc l k hlt)
      clear hc hx
      generalize l.getD k default = x at *
      obtain ⟨x0, x1, x2, x3, x4⟩ := x
      obtain ⟨c0, c1', c2, c3, c4⟩ := cc
      simp only at c0 c1' c2 c3 c4
      obtain ⟨ao, co, rfl⟩ := own_slice hown.out
      have hsw := hout.out.size
      have hwr := hw.out.lt
      have k4 := hw.out.c4
      have e8 : ((n : Int) == 8192) = false := by rw [beq_eq_false_iff_ne]; omega
      have HN := Lib.hid hnn; have HLE := Lib.hid hlen2; clear hnn hlen2
      go_wp2_with fail
      generalize hW2 : World.alloc wr _ = W2
      have HG : Hid (Below wr.heap.size wr W2) := by rw [← hW2]; exact (Below.refl _ _).alloc (Nat.le_refl _) _
      have hs2 : wr.heap.size < W2.heap.size := by rw [← hW2]; simp [go_sem]
      have t0 : W2.cell? ⟨wr.heap.size, 0, none⟩ = some (.int .i64 x0) := by rw [← hW2]; simp [go_sem]
      have t1 : W2.cell? ⟨wr.heap.size, 1, none⟩ = some (.int .i64 x1) := by rw [← hW2]; simp [go_sem]
      have t2 : W2.cell? ⟨wr.heap.size, 2, none⟩ = some (.int .i64 x2) := by rw [← hW2]; simp [go_sem]
      have t3 : W2.cell? ⟨wr.heap.size, 3, none⟩ = some (.string x3) := by rw [← hW2]; simp [go_sem]
      have t4 : W2.cell? ⟨wr.heap.size, 4, none⟩ = some (.int .i64 x4) := by rw [← hW2]; simp [go_sem]
      have HO2 : Hid (W2.ownsRow base 25 5 (.slice ao n co) n (fl (lo ++ l.take k))) := by rw [← hW2]; exact hown.out.alloc _
      have HU2 : Hid (Outs wb o.ownBlock w1 W2) := by rw [← hW2]; exact hout.out.alloc _
      clear hW2 c0 c1' c2 c3 c4 k4
      have HW2 := Lib.hid (hw.out.keep (HG.out.block wb hwr))
      have k4 := HW2.out.c4
      have hw2 := HW2.out.lt
      have hbs : base ≤ W2.heap.size := by omega
      go_region_law (refine step_push rfl (.tmp 27) (.tmp 29) rfl base _ n (lo ++ l.take k) rfl (HO2.out.alloc _).drew W2.heap.size x0 x1 x2 x3 x4 rfl (heap_new W2 _) (by omega) (by simp; omega) ?_; intro g cap w3 h1 h2 h3; have q4 := (Wk.keep HW2.out ((h2.block wb (by simp; omega) (own_ne HO2.out HW2.out).symm).trans (Below.heap_alloc _ _ _ hw2))).c4; have z4 := (Wk.keep HW2.out ((h2.block wb (by simp; omega) (own_ne HO2.out HW2.out).symm).trans (Below.heap_alloc _ _ _ hw2))).free 4)
      all_goals
        have HW3 := Lib.hid (Wk.keep HW2.out ((h2.block wb (by simp; omega) (own_ne HO2.out HW2.out).symm).trans (Below.heap_alloc _ _ _ hw2)))
        have HO3 : Hid ((w3.setCell ⟨wb, 4, none⟩ (.slice (some ⟨g, 0, none⟩) (n + 1) cap)).ownsRow base 25 5 (.slice (some ⟨g, 0, none⟩) (n + 1) cap) (lo.length + (k + 1)) (fl (lo ++ l.take (k + 1)))) := by
          rw [HT.out, ← Nat.add_assoc, HN.out, ← List.append_assoc]
          exact ownsRow_setCell_other h1 (own_ne h1 HW3.out) _
        have HU3 := Lib.hid ((((HU2.out.alloc _).drew).grown h2 hob.out).setCell 4 (.slice (some ⟨g, 0, none⟩) (n + 1) cap))
        have HB3 : Hid (∀ g', (Value.slice (some ⟨g, 0, none⟩) (n + 1) cap).ownBlock = some g' → o.ownBlock = some g' ∨ w1.heap.size ≤ g') := by
          intro g' hg'
          obtain rfl : g = g' := by simpa [Value.ownBlock] using hg'
          rcases h3 with h3 | h3
          · exact hob.out g h3
          · right; simp at h3; omega
        clear h1 h2 h3
        go_wp2
        go_roundw
        case rel => exact ⟨k + 1, _, by omega, by go_num, HW3.out.set4 _, HO3, HU3, HB3⟩
        case measure => simp [intOf]; omega
    · go_wp2
      refine bodyPost_ret (v := .tuple #[]) (by simp [results, Try.results16, go_sem]) rfl ?_
      have : k = l.length := by omega
      subst this
      have hown' := hown.out
      rw [List.take_length] at hown'
      exact ⟨rfl, o', hw.out, hown', (HB1.out.mono (fun x hx => .inl (.inl hx))).trans (OutsP.of_outs hout.out) (fun x hx => .inl hx), fun g hg => (hob.out g hg).imp id (fun h => by omega)⟩
end Go.Proofs.Ytaliplbbmhfenaa

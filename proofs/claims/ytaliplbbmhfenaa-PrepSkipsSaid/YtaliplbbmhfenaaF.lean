/-
  The contracts of done and tell, where no macro is used; what is kept where no condition is open.
-/
import Derived.Test.YtaliplbbmhfenaaE
import Derived.Laws.EntriesVeiled
import Derived.OneCell
import Derived.Deep.AppendLies
import Derived.Deep.RegionLaw
import Derived.Laws.Rows
namespace Go.Proofs.Ytaliplbbmhfenaa
open Go.MapKept Go.ChangeShapes Go.WideShapes Go.ChangeAt Go.RowKit Go.Deep Go.Joins Go.Instr
theorem own_base {w : World} {base base' : Nat} {e : TypeId} {v : Value} {n size : Nat} {xs : List Value} (h : w.ownsRow base e size v n xs) (hb : base' ≤ base) : w.ownsRow base' e size v n xs := by
  obtain ⟨h1, h2⟩ := h
  refine ⟨h1, ?_⟩
  rcases h2 with h2 | ⟨g, cap, cur, hv, hg, r⟩
  · exact Or.inl h2
  · exact Or.inr ⟨g, cap, cur, hv, by omega, r⟩
set_option maxHeartbeats 2000000 in
theorem done_plain (l : List TkD) (v : Value) (wb kb : Nat) (es : Array MapEntry) (clock : Nat) (f : ByteArray → Option MacD) (w : World) (hs : Sl w 5 TkD.enc v l) (hl : l.length ≤ 8192)
    (hk : w.cell? ⟨wb, 1, none⟩ = some (.map (some kb))) (hm : w.heap[kb]? = some (.map es clock))
    (hf : Kno es f) (hpl : ∀ t ∈ l, t.kind = 1 → f t.text = none) :
    Calls Try.prog 27 #[.pointer (some ⟨wb, 0, none⟩), v] w fun e w' => ∃ v', e = .returned v' ∧ w'.ownsRow w.heap.size 25 5 v' l.length (fl l) ∧ Below w.heap.size w w' := by
  obtain ⟨aa, ca, rfl, ma, HA⟩ := sl_open hs
  have hwb := World.block_lt_of_cell? w _ hk
  have hkb : kb < w.heap.size := (Array.getElem?_eq_some_iff.1 hm).1
  have hmf : ∀ (fn : Fn) (first cap : Array Value) (w : World), (Instr.makeFunc fn first cap).run Try.prog w = .ok (.func fn first cap) w := fun _ _ _ _ => rfl
  have HS := Lib.hid hs; have HK := Lib.hid hk; have HM := Lib.hid hm; have HF := Lib.hid hf; have HL := Lib.hid hpl
  clear hs hk hm hf hpl HA
  go_enter Try.func27, Try.ntmps27
  go_wp2_with fail
  generalize hW1 : World.alloc (World.alloc w _) _ = W1
  have hg : Below w.heap.size w W1 := by rw [← hW1]; go_grown
  have hp : W1.cell? ⟨w.heap.size, 0, none⟩ = some (.pointer (some ⟨wb, 0, none⟩)) := by rw [← hW1]; simp [go_sem]
  clear hW1
  have HG := Lib.hid hg; have HP := Lib.hid hp; clear hg hp
  refine (do_plain l _ 0 w.heap.size (w.heap.size + 1) wb kb es clock f _ (HS.out.keep HG.out) hl HP.out ((HG.out.cell (p := ⟨wb, 1, none⟩) hwb).trans HK.out) ((HG.out.block kb hkb).trans HM.out) HF.out HL.out).mono ?_
  rintro e w2 ⟨v', rfl, hown, hB⟩
  have HO := Lib.hid hown; have HB := Lib.hid hB
  clear hown hB
  go_wp2
  go_ret
  exact ⟨v', rfl, own_base HO.out HG.out.size, HG.out.trans (HB.out.mono HG.out.size)⟩
/-- Nothing but the work's block and one row has turned. -/
structure Outs (wb : Nat) (g : Option Nat) (w w' : World) : Prop where
  os : w'.os = w.os
  tape : w'.tape = w.tape
  output : w'.output = w.output
  size : w.heap.size ≤ w'.heap.size
  block : ∀ k, k < w.heap.size → k ≠ wb → g ≠ some k → w'.heap[k]? = w.heap[k]?
theorem Outs.of_below {wb : Nat} {g : Option Nat} {w w' : World} (h : Below w.heap.size w w') : Outs wb g w w' := ⟨h.os, h.tape, h.output, h.size, fun k hk _ _ => h.block k hk⟩
theorem Outs.drew {wb : Nat} {g : Option Nat} {w w' : World} (h : Outs wb g w w') : Outs wb g w w'.drew := ⟨h.os, h.tape, h.output, h.size, h.block⟩
theorem Outs.alloc {wb : Nat} {g : Option Nat} {w w' : World} (h : Outs wb g w w') (o : Obj) : Outs wb g w (w'.alloc o) :=
  ⟨h.os, h.tape, h.output, by have := h.size; simp; omega, fun k hk h1 h2 => (Below.heap_alloc _ _ _ (by have := h.size; omega)).trans (h.block k hk h1 h2)⟩
theorem Outs.grown {wb : Nat} {g : Option Nat} {w w' w'' : World} {row : Option Nat} (h : Outs wb g w w') (hg : w'.grownBy w'' row) (hr : ∀ k, row = some k → g = some k ∨ w.heap.size ≤ k) : Outs wb g w w'' :=
  ⟨hg.os.trans h.os, hg.tape.trans h.tape, hg.output.trans h.output, Nat.le_trans h.size hg.size, fun k hk h1 h2 => (hg.block k (by have := h.size; omega) (fun e => by
    rcases hr k e.symm with h3 | h3
    · exact h2 h3
    · omega)).trans (h.block k hk h1 h2)⟩
theorem Outs.setCell {wb : Nat} {g : Option Nat} {w w' : World} (h : Outs wb g w w') (o : Nat) (u : Value) : Outs wb g w (w'.setCell ⟨wb, o, none⟩ u) :=
  ⟨h.os, h.tape, h.output, by have := h.size; simpa [World.setCell] using this, fun k hk h1 h2 => (Below.heap_setCell _ _ _ _ h1).trans (h.block k hk h1 h2)⟩
theorem Outs.trans {wb : Nat} {g g' : Option Nat} {a b c : World} (h : Outs wb g a b) (k : Outs wb g' b c) (hr : ∀ x, g' = some x → g = some x ∨ a.heap.size ≤ x) : Outs wb g a c :=
  ⟨k.os.trans h.os, k.tape.trans h.tape, k.output.trans h.output, Nat.le_trans h.size k.size, fun i hi h1 h2 => (k.block i (by have := h.size; omega) h1 (fun e => by
    rcases hr i e with h3 | h3
    · exact h2 h3
    · omega)).trans (h.block i hi h1 h2)⟩
/-- The work's block. -/
def Wk (w : World) (wb : Nat) (inl : Bool) (kb : Nat) (op : Value) (us : Int) (o : Value) : Prop := w.heap[wb]? = some (.cells #[.bool inl, .map (some kb), op, .int .i64 us, o] 40 (0, 0))
theorem Wk.lt {w : World} {wb : Nat} {inl : Bool} {kb : Nat} {op : Value} {us : Int} {o : Value} (h : Wk w wb inl kb op us o) : wb < w.heap.size := lt_of_block h
theorem Wk.c0 {w : World} {wb : Nat} {inl : Bool} {kb : Nat} {op : Value} {us : Int} {o : Value} (h : Wk w wb inl kb op us o) : w.cell? ⟨wb, 0, none⟩ = some (.bool inl) := by rw [cell_of_row w wb 0 _ _ _ h]; rfl
theorem Wk.c1 {w : World} {wb : Nat} {inl : Bool} {kb : Nat} {op : Value} {us : Int} {o : Value} (h : Wk w wb inl kb op us o) : w.cell? ⟨wb, 1, none⟩ = some (.map (some kb)) := by rw [cell_of_row w wb 1 _ _ _ h]; rfl
theorem Wk.c2 {w : World} {wb : Nat} {inl : Bool} {kb : Nat} {op : Value} {us : Int} {o : Value} (h : Wk w wb inl kb op us o) : w.cell? ⟨wb, 2, none⟩ = some op := by rw [cell_of_row w wb 2 _ _ _ h]; rfl
theorem Wk.c3 {w : World} {wb : Nat} {inl : Bool} {kb : Nat} {op : Value} {us : Int} {o : Value} (h : Wk w wb inl kb op us o) : w.cell? ⟨wb, 3, none⟩ = some (.int .i64 us) := by rw [cell_of_row w wb 3 _ _ _ h]; rfl
theorem Wk.c4 {w : World} {wb : Nat} {inl : Bool} {kb : Nat} {op : Value} {us : Int} {o : Value} (h : Wk w wb inl kb op us o) : w.cell? ⟨wb, 4, none⟩ = some o := by rw [cell_of_row w wb 4 _ _ _ h]; rfl
theorem Wk.free {w : World} {wb : Nat} {inl : Bool} {kb : Nat} {op : Value} {us : Int} {o : Value} (h : Wk w wb inl kb op us o) (j : Nat) : w.frozen? ⟨wb, j, none⟩ = false := by
  unfold World.frozen?; rw [h]; simp
theorem Wk.set4 {w : World} {wb : Nat} {inl : Bool} {kb : Nat} {op : Value} {us : Int} {o : Value} (h : Wk w wb inl kb op us o) (u : Value) : Wk (w.setCell ⟨wb, 4, none⟩ u) wb inl kb op us u := heap_setCell_same w wb 4 _ _ u h
theorem Wk.set3 {w : World} {wb : Nat} {inl : Bool} {kb : Nat} {op : Value} {us : Int} {o : Value} (h : Wk w wb inl kb op us o) (u : Int) : Wk (w.setCell ⟨wb, 3, none⟩ (.int .i64 u)) wb inl kb op u o := heap_setCell_same w wb 3 _ _ (.int .i64 u) h
theorem Wk.set2 {w : World} {wb : Nat} {inl : Bool} {kb : Nat} {op : Value} {us : Int} {o : Value} (h : Wk w wb inl kb op us o) (u : Value) : Wk (w.setCell ⟨wb, 2, none⟩ u) wb inl kb u us o := heap_setCell_same w wb 2 _ _ u h
theorem Wk.keep {w w' : World} {wb : Nat} {inl : Bool} {kb : Nat} {op : Value} {us : Int} {o : Value} (h : Wk w wb inl kb op us o) (hb : w'.heap[wb]? = w.heap[wb]?) : Wk w' wb inl kb op us o := hb.trans h
/-- A row of tokens of the call's own is not the work's block. -/
theorem own_ne {w : World} {base wb : Nat} {inl : Bool} {kb : Nat} {op : Value} {us : Int} {o v : Value} {n : Nat} {xs : List Value} (h : w.ownsRow base 25 5 v n xs) (hw : Wk w wb inl kb op us o) : v.ownBlock ≠ some wb := by
  intro e
  rcases h.2 with ⟨rfl, _⟩ | ⟨g, cap, cur, rfl, _, hh, _⟩
  · simp [Value.ownBlock] at e
  · obtain rfl : g = wb := by simpa [Value.ownBlock] using e
    unfold Wk at hw
    rw [hw] at hh
    simp at hh
theorem own_lt {w : World} {base : Nat} {v : Value} {n size : Nat} {e : TypeId} {xs : List Value} (h : w.ownsRow base e size v n xs) : ∀ g, v.ownBlock = some g → g < w.heap.size := fun g hg => (h.lt g hg).2
theorem heap_new (w : World) (o : Obj) : (w.alloc o).drew.heap[w.heap.size]? = some o := by show (w.heap.push o)[w.heap.size]? = _; simp
/-- append of one token to a row of the call's own, at a step of a region that draws. -/
theorem step_push {ops : Array Oper} {o : Oper} {a : Act} {w : World} {K : Act → World → Prop} {Q : Exit → Act → World → Prop} {E : Prop} (hgd : o.guard = none) (s x : Operand)
    (ho : o.op = .call { callee := .builtin .append, args := #[s, x], argTypes := #[22, 22] })
    (base : Nat) (v : Value) (n : Nat) (l1 : List TkD) (hs : a.eval s = v) (hown : w.ownsRow base 25 5 v n (fl l1))
    (b0 : Nat) (x0 x1 x2 : Int) (x3 : ByteArray) (x4 : Int) (hx : a.eval x = .slice (some ⟨b0, 0, none⟩) 1 1) (hb : w.heap[b0]? = some (.cells #[.int .i64 x0, .int .i64 x1, .int .i64 x2, .string x3, .int .i64 x4] 25 (0, 0)))
    (h63 : n + 1 ≤ 1000000000) (hbase : base ≤ w.heap.size)
    (h : ∀ g cap w', w'.ownsRow base 25 5 (.slice (some ⟨g, 0, none⟩) (n + 1) cap) (n + 1) (fl (l1 ++ [⟨x0, x1, x2, x3, x4⟩])) → w.grownBy w' v.ownBlock → (v.ownBlock = some g ∨ w.heap.size ≤ g) → K (a.put o.dst (.slice (some ⟨g, 0, none⟩) (n + 1) cap)) w') :
    if Region.wanted o (yielded ops a.tmps) = true then Oper.wp Try.prog o a w K Q else E := by
  obtain ⟨i0, hi, hz0, hz1, hz2⟩ := info_parts Try.info25
  refine step_append_lies w hgd s x 22 ho base 25 i0 _ 5 48 Try.underlying22 hi hz0 hz1 hz2 rfl (by omega) v n (fl l1) hs hown ⟨b0, 0, none⟩ 1 1 (fl [⟨x0, x1, x2, x3, x4⟩]) hx (fl_len _) ?_ (fl_one' _) (by omega) (by unfold maxLen; omega) (by omega) hbase _ rfl ?_
  · exact World.news_of_block (cs := #[.int .i64 x0, .int .i64 x1, .int .i64 x2, .string x3, .int .i64 x4]) hb
  · intro g cap w' h1 h2 h3 _
    exact h g cap w' (by rw [fl_app]; exact h1) h2 (h3.imp id (fun e => by omega))
/-- What telling comes to. -/
def TellPost (w : World) (base wb : Nat) (inl : Bool) (kb : Nat) (op : Value) (us : Int) (o : Value) (lo l : List TkD) (e : Ending) (w' : World) : Prop :=
  e = .returned (.tuple #[]) ∧ ∃ o', Wk w' wb inl kb op us o' ∧ w'.ownsRow base 25 5 o' (lo.length + l.length) (fl (lo ++ l)) ∧ Outs wb o.ownBlock w w' ∧ ∀ g, o'.ownBlock = some g → o.ownBlock = some g ∨ w.heap.size ≤ g
set_option maxHeartbeats 4000000 in
theorem tell_plain (l lo : List TkD) (v : Value) (base wb kb : Nat) (inl : Bool) (op : Value) (us : Int) (o : Value) (es : Array MapEntry) (clock : Nat) (f : ByteArray → Option MacD) (w : World) (hs : Sl w 5 TkD.enc v l)
    (hw : Wk w wb inl kb op us o) (hown : w.ownsRow base 25 5 o lo.length (fl lo)) (hbase : base ≤ w.heap.size) (hm : w.heap[kb]? = some (.map es clock))
    (hf : Kno es f) (hpl : ∀ t ∈ l, t.kind = 1 → f t.text = none) (hlen : lo.length + l.length ≤ 8192) :
    Calls Try.prog 16 #[.pointer (some ⟨wb, 0, none⟩), v] w (TellPost w base wb inl kb op us o lo l) := by
  obtain ⟨aa, ca, rfl, ma, HA⟩ := sl_open hs
  clear HA
  have hwb := hw.lt
  have HS := Lib.hid hs; have HW := Lib.hid hw; have HO := Lib.hid hown; have HM := Lib.hid hm; have HF := Lib.hid hf; have HL := Lib.hid hpl
  clear hs hw hown hm hf hpl
  go_enter Try.func16, Try.ntmps16
  go_wp2_with fail
  refine (done_plain l _ wb kb es clock f _ HS.out (by omega) HW.out.c1 HM.out HF.out HL.out).mono ?_
  rintro e w1 ⟨v1, rfl, hown1, hB1⟩
  have HW1 := Lib.hid (HW.out.keep (hB1.block wb hwb))
  have HO1 : Hid (w1.ownsRow base 25 5 o lo.length (fl lo)) := HO.out.kept (row := none) ⟨hB1.os, hB1.tape, hB1.output, hB1.size, fun k hk _ => hB1.block k hk⟩ (by
    cases o.ownBlock <;> simp)
  obtain ⟨a1, c1, rfl⟩ := own_slice hown1
  have HR1 := Lib.hid (own_lt hown1)
  have HSl := Lib.hid (sl_of_own hown1)
  have HR2 : Hid (∀ g, (Value.slice a1 l.length c1).ownBlock = some g → w.heap.size ≤ g) := fun g hg => (hown1.lt g hg).1
  have HB1 := Lib.hid hB1
  have hsz := hB1.size
  clear hown1 hB1
  go_wp2_with fail
  go_loopw [10] (fun i wr => ∃ (k : Nat) (o' : Value), k ≤ l.length ∧ i = .int .i64 k ∧ Hid (Wk wr wb inl kb op us o') ∧ Hid (wr.ownsRow base 25 5 o' (lo.length + k) (fl (lo ++ l.take k))) ∧ Hid (Outs wb o.ownBlock w1 wr) ∧ Hid (∀ g, o'.ownBlock = some g → o.ownBlock = some g ∨ w1.heap.size ≤ g)) (fun i _ => l.length - (intOf i).toNat)
  case atStart => exact ⟨0, o, Nat.zero_le _, rfl, HW1, Lib.hid (show w1.ownsRow base 25 5 o (lo.length + 0) (fl (lo ++ l.take 0)) by simpa using HO1.out), Outs.of_below (Below.refl _ _), fun g hg => .inl hg⟩
  case round =>
    obtain ⟨k, o', hk, rfl, hw, hown, hout, hob⟩ := hrel
    by_cases hlt : k < l.length
    · have hn0 : lo.length + k < 8192 := by omega
      have hlen2 : (lo ++ l.take k).length = lo.length + k := by simp; omega
      generalize hnn : lo.length + k = n at *
      obtain ⟨_, _, e, _, hx⟩ := sl_open HSl.out
      injection e with e1 e2 e3
      subst e1; subst e3
      obtain ⟨b, off, rfl, hb, hc⟩ := hx.out (by omega)
      have hbw : w.heap.size ≤ b := HR2.out b rfl
      have hbne : o.ownBlock ≠ some b := fun h => by have := own_lt HO.out b h; omega
      have cc := tk_cells (w := wr) (b := b) (off := off + k * 5) fun j hj => (World.cell?_of_block (w := w1) (w' := wr) (hout.out.block b hb (by omega) hbne)).trans (hc k hlt j hj)
      have HT := Lib.hid (take_snoc l k hlt)
      clear hc hx
      generalize l.getD k default = x at *
      obtain ⟨x0, x1, x2, x3, x4⟩ := x
      obtain ⟨c0, c1', c2, c3, c4⟩ := cc
      simp only at c0 c1' c2 c3 c4
      obtain ⟨ao, co, rfl⟩ := own_slice hown.out
      have hsw := hout.out.size
      have hwr := hw.out.lt
      have k4 := hw.out.c4
      have e8 : ((n : Int) == 8192) = false := by rw [beq_eq_false_iff_ne]; omega
      have HN := Lib.hid hnn; have HLE := Lib.hid hlen2; clear hnn hlen2
      go_wp2_with fail
      generalize hW2 : World.alloc wr _ = W2
      have HG : Hid (Below wr.heap.size wr W2) := by rw [← hW2]; exact (Below.refl _ _).alloc (Nat.le_refl _) _
      have hs2 : wr.heap.size < W2.heap.size := by rw [← hW2]; simp [go_sem]
      have t0 : W2.cell? ⟨wr.heap.size, 0, none⟩ = some (.int .i64 x0) := by rw [← hW2]; simp [go_sem]
      have t1 : W2.cell? ⟨wr.heap.size, 1, none⟩ = some (.int .i64 x1) := by rw [← hW2]; simp [go_sem]
      have t2 : W2.cell? ⟨wr.heap.size, 2, none⟩ = some (.int .i64 x2) := by rw [← hW2]; simp [go_sem]
      have t3 : W2.cell? ⟨wr.heap.size, 3, none⟩ = some (.string x3) := by rw [← hW2]; simp [go_sem]
      have t4 : W2.cell? ⟨wr.heap.size, 4, none⟩ = some (.int .i64 x4) := by rw [← hW2]; simp [go_sem]
      have HO2 : Hid (W2.ownsRow base 25 5 (.slice ao n co) n (fl (lo ++ l.take k))) := by rw [← hW2]; exact hown.out.alloc _
      have HU2 : Hid (Outs wb o.ownBlock w1 W2) := by rw [← hW2]; exact hout.out.alloc _
      clear hW2 c0 c1' c2 c3 c4 k4
      have HW2 := Lib.hid (hw.out.keep (HG.out.block wb hwr))
      have k4 := HW2.out.c4
      have hw2 := HW2.out.lt
      have hbs : base ≤ W2.heap.size := by omega
      go_region_law (refine step_push rfl (.tmp 27) (.tmp 29) rfl base _ n (lo ++ l.take k) rfl (HO2.out.alloc _).drew W2.heap.size x0 x1 x2 x3 x4 rfl (heap_new W2 _) (by omega) (by simp; omega) ?_; intro g cap w3 h1 h2 h3; have q4 := (Wk.keep HW2.out ((h2.block wb (by simp; omega) (own_ne HO2.out HW2.out).symm).trans (Below.heap_alloc _ _ _ hw2))).c4; have z4 := (Wk.keep HW2.out ((h2.block wb (by simp; omega) (own_ne HO2.out HW2.out).symm).trans (Below.heap_alloc _ _ _ hw2))).free 4)
      all_goals
        have HW3 := Lib.hid (Wk.keep HW2.out ((h2.block wb (by simp; omega) (own_ne HO2.out HW2.out).symm).trans (Below.heap_alloc _ _ _ hw2)))
        have HO3 : Hid ((w3.setCell ⟨wb, 4, none⟩ (.slice (some ⟨g, 0, none⟩) (n + 1) cap)).ownsRow base 25 5 (.slice (some ⟨g, 0, none⟩) (n + 1) cap) (lo.length + (k + 1)) (fl (lo ++ l.take (k + 1)))) := by
          rw [HT.out, ← Nat.add_assoc, HN.out, ← List.append_assoc]
          exact ownsRow_setCell_other h1 (own_ne h1 HW3.out) _
        have HU3 := Lib.hid ((((HU2.out.alloc _).drew).grown h2 hob.out).setCell 4 (.slice (some ⟨g, 0, none⟩) (n + 1) cap))
        have HB3 : Hid (∀ g', (Value.slice (some ⟨g, 0, none⟩) (n + 1) cap).ownBlock = some g' → o.ownBlock = some g' ∨ w1.heap.size ≤ g') := by
          intro g' hg'
          obtain rfl : g = g' := by simpa [Value.ownBlock] using hg'
          rcases h3 with h3 | h3
          · exact hob.out g h3
          · right; simp at h3; omega
        clear h1 h2 h3
        go_wp2
        go_roundw
        case rel => exact ⟨k + 1, _, by omega, by go_num, HW3.out.set4 _, HO3, HU3, HB3⟩
        case measure => simp [intOf]; omega
    · go_wp2
      refine bodyPost_ret (v := .tuple #[]) (by simp [results, Try.results16, go_sem]) rfl ?_
      have : k = l.length := by omega
      subst this
      have hown' := hown.out
      rw [List.take_length] at hown'
      exact ⟨rfl, o', hw.out, hown', (Outs.of_below HB1.out).trans hout.out (fun x hx => .inl hx), fun g hg => (hob.out g hg).imp id (fun h => by omega)⟩
end Go.Proofs.Ytaliplbbmhfenaa

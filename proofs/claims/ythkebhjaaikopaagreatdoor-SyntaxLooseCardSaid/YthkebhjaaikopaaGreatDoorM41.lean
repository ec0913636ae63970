/- Part of the proof of SyntaxLooseCardSaid (PFx PGx PHx). -/
import Derived.Test.YthkebhjaaikopaaGreatDoorM40
import Derived.Laws.EntriesVeiled
import Derived.OneCell
import Derived.Deep.AppendLies
import Derived.Deep.RegionLaw
import Derived.Laws.Rows
import Derived.Deep.RegionWith
set_option maxHeartbeats 8000000
namespace Go.Proofs.YthkebhjaaikopaaGreatDoor.Px
open Go.MapKept Go.ChangeShapes Go.WideShapes Go.ChangeAt Go.RowKit Go.Deep Go.Joins Go.Instr
theorem iC {w : World} {base base' : Nat} {e : TypeId} {v : Value} {n size : Nat} {xs : List Value} (h : w.ownsRow base e size v n xs) (hb : base' ≤ base) : w.ownsRow base' e size v n xs := by
  obtain ⟨h1, h2⟩ := h; refine ⟨h1, ?_⟩; rcases h2 with h2 | ⟨g, cap, cur, hv, hg, r⟩
  · exact Or.inl h2
  · exact Or.inr ⟨g, cap, cur, hv, by omega, r⟩
theorem nR (l : List ay) (v : Value) (wb kb : Nat) (es : Array MapEntry) (clock : Nat) (f : ByteArray → Option js) (w : World) (hs : Sl w 5 ay.enc v l) (hl : l.length ≤ 8192)
    (hk : w.cell? ⟨wb, 1, none⟩ = some (.map (some kb))) (hm : w.heap[kb]? = some (.map es clock))
    (hf : tW es f) (hpl : ∀ t ∈ l, t.kind = 1 → f t.text = none) :
    Calls Tryz.prog 128 #[.pointer (some ⟨wb, 0, none⟩), v] w fun e w' => ∃ v', e = .returned v' ∧ w'.ownsRow w.heap.size 31 5 v' l.length (fl l) ∧ Below w.heap.size w w' := by
  obtain ⟨aa, ca, rfl, ma, HA⟩ := aV hs; have hwb := World.block_lt_of_cell? w _ hk; have hkb : kb < w.heap.size := (Array.getElem?_eq_some_iff.1 hm).1; have hmf : ∀ (fn : Fn) (first cap : Array Value) (w : World), (Instr.makeFunc fn first cap).run Tryz.prog w = .ok (.func fn first cap) w := fun _ _ _ _ => rfl
  have HS := qd hs; have HK := qd hk; have HM := qd hm; have HF := qd hf; have HL := qd hpl; clear hs hk hm hf hpl HA; go_enter Tryz.func128, Tryz.ntmps128; go_wp2_with fail; generalize hW1 : World.alloc (World.alloc w _) _ = W1; have hg : Below w.heap.size w W1 := by rw [← hW1]; go_grown
  have hp : W1.cell? ⟨w.heap.size, 0, none⟩ = some (.pointer (some ⟨wb, 0, none⟩)) := by rw [← hW1]; simp [go_sem]
  clear hW1; have HG := qd hg; have HP := qd hp; clear hg hp; refine (rf l _ 0 w.heap.size (w.heap.size + 1) wb kb es clock f _ (HS.out.keep HG.out) hl HP.out ((HG.out.cell (p := ⟨wb, 1, none⟩) hwb).trans HK.out) ((HG.out.block kb hkb).trans HM.out) HF.out HL.out).mono ?_; rintro e w2 ⟨v', rfl, hown, hB⟩; have HO := qd hown; have HB := qd hB; clear hown hB; go_wp2; go_ret; exact ⟨v', rfl, iC HO.out HG.out.size, HG.out.trans (HB.out.mono HG.out.size)⟩
structure di (wb : Nat) (g : Option Nat) (w w' : World) : Prop where
  os : w'.os = w.os
  tape : w'.tape = w.tape
  output : w'.output = w.output
  size : w.heap.size ≤ w'.heap.size
  block : ∀ k, k < w.heap.size → k ≠ wb → g ≠ some k → w'.heap[k]? = w.heap[k]?
theorem di.of_below {wb : Nat} {g : Option Nat} {w w' : World} (h : Below w.heap.size w w') : di wb g w w' := ⟨h.os, h.tape, h.output, h.size, fun k hk _ _ => h.block k hk⟩
theorem di.drew {wb : Nat} {g : Option Nat} {w w' : World} (h : di wb g w w') : di wb g w w'.drew := ⟨h.os, h.tape, h.output, h.size, h.block⟩
theorem di.alloc {wb : Nat} {g : Option Nat} {w w' : World} (h : di wb g w w') (o : Obj) : di wb g w (w'.alloc o) :=
  ⟨h.os, h.tape, h.output, by have := h.size; simp; omega, fun k hk h1 h2 => (Below.heap_alloc _ _ _ (by have := h.size; omega)).trans (h.block k hk h1 h2)⟩
theorem di.grown {wb : Nat} {g : Option Nat} {w w' w'' : World} {row : Option Nat} (h : di wb g w w') (hg : w'.grownBy w'' row) (hr : ∀ k, row = some k → g = some k ∨ w.heap.size ≤ k) : di wb g w w'' :=
  ⟨hg.os.trans h.os, hg.tape.trans h.tape, hg.output.trans h.output, Nat.le_trans h.size hg.size, fun k hk h1 h2 => (hg.block k (by have := h.size; omega) (fun e => by
    rcases hr k e.symm with h3 | h3
    · exact h2 h3
    · omega)).trans (h.block k hk h1 h2)⟩
theorem di.setCell {wb : Nat} {g : Option Nat} {w w' : World} (h : di wb g w w') (o : Nat) (u : Value) : di wb g w (w'.setCell ⟨wb, o, none⟩ u) :=
  ⟨h.os, h.tape, h.output, by have := h.size; simpa [World.setCell] using this, fun k hk h1 h2 => (Below.heap_setCell _ _ _ _ h1).trans (h.block k hk h1 h2)⟩
theorem di.trans {wb : Nat} {g g' : Option Nat} {a b c : World} (h : di wb g a b) (k : di wb g' b c) (hr : ∀ x, g' = some x → g = some x ∨ a.heap.size ≤ x) : di wb g a c :=
  ⟨k.os.trans h.os, k.tape.trans h.tape, k.output.trans h.output, Nat.le_trans h.size k.size, fun i hi h1 h2 => (k.block i (by have := h.size; omega) h1 (fun e => by
    rcases hr i e with h3 | h3
    · exact h2 h3
    · omega)).trans (h.block i hi h1 h2)⟩
def Wk (w : World) (wb : Nat) (inl : Bool) (kb : Nat) (op : Value) (us : Int) (o : Value) : Prop := w.heap[wb]? = some (.cells #[.bool inl, .map (some kb), op, .int .i64 us, o] 100 (0, 0))
theorem Wk.lt {w : World} {wb : Nat} {inl : Bool} {kb : Nat} {op : Value} {us : Int} {o : Value} (h : Wk w wb inl kb op us o) : wb < w.heap.size := af h
theorem Wk.c0 {w : World} {wb : Nat} {inl : Bool} {kb : Nat} {op : Value} {us : Int} {o : Value} (h : Wk w wb inl kb op us o) : w.cell? ⟨wb, 0, none⟩ = some (.bool inl) := by rw [cell_of_row w wb 0 _ _ _ h]; rfl
theorem Wk.c1 {w : World} {wb : Nat} {inl : Bool} {kb : Nat} {op : Value} {us : Int} {o : Value} (h : Wk w wb inl kb op us o) : w.cell? ⟨wb, 1, none⟩ = some (.map (some kb)) := by rw [cell_of_row w wb 1 _ _ _ h]; rfl
theorem Wk.c2 {w : World} {wb : Nat} {inl : Bool} {kb : Nat} {op : Value} {us : Int} {o : Value} (h : Wk w wb inl kb op us o) : w.cell? ⟨wb, 2, none⟩ = some op := by rw [cell_of_row w wb 2 _ _ _ h]; rfl
theorem Wk.c3 {w : World} {wb : Nat} {inl : Bool} {kb : Nat} {op : Value} {us : Int} {o : Value} (h : Wk w wb inl kb op us o) : w.cell? ⟨wb, 3, none⟩ = some (.int .i64 us) := by rw [cell_of_row w wb 3 _ _ _ h]; rfl
theorem Wk.c4 {w : World} {wb : Nat} {inl : Bool} {kb : Nat} {op : Value} {us : Int} {o : Value} (h : Wk w wb inl kb op us o) : w.cell? ⟨wb, 4, none⟩ = some o := by rw [cell_of_row w wb 4 _ _ _ h]; rfl
theorem Wk.free {w : World} {wb : Nat} {inl : Bool} {kb : Nat} {op : Value} {us : Int} {o : Value} (h : Wk w wb inl kb op us o) (j : Nat) : w.frozen? ⟨wb, j, none⟩ = false := by
  unfold World.frozen?; rw [h]; simp
theorem Wk.set4 {w : World} {wb : Nat} {inl : Bool} {kb : Nat} {op : Value} {us : Int} {o : Value} (h : Wk w wb inl kb op us o) (u : Value) : Wk (w.setCell ⟨wb, 4, none⟩ u) wb inl kb op us u := heap_setCell_same w wb 4 _ _ u h
theorem Wk.set3 {w : World} {wb : Nat} {inl : Bool} {kb : Nat} {op : Value} {us : Int} {o : Value} (h : Wk w wb inl kb op us o) (u : Int) : Wk (w.setCell ⟨wb, 3, none⟩ (.int .i64 u)) wb inl kb op u o := heap_setCell_same w wb 3 _ _ (.int .i64 u) h
theorem Wk.set2 {w : World} {wb : Nat} {inl : Bool} {kb : Nat} {op : Value} {us : Int} {o : Value} (h : Wk w wb inl kb op us o) (u : Value) : Wk (w.setCell ⟨wb, 2, none⟩ u) wb inl kb u us o := heap_setCell_same w wb 2 _ _ u h
theorem Wk.keep {w w' : World} {wb : Nat} {inl : Bool} {kb : Nat} {op : Value} {us : Int} {o : Value} (h : Wk w wb inl kb op us o) (hb : w'.heap[wb]? = w.heap[wb]?) : Wk w' wb inl kb op us o := hb.trans h
theorem kA {w : World} {base wb : Nat} {inl : Bool} {kb : Nat} {op : Value} {us : Int} {o v : Value} {n : Nat} {xs : List Value} (h : w.ownsRow base 31 5 v n xs) (hw : Wk w wb inl kb op us o) : v.ownBlock ≠ some wb := by
  intro e; rcases h.2 with ⟨rfl, _⟩ | ⟨g, cap, cur, rfl, _, hh, _⟩
  · simp [Value.ownBlock] at e
  · obtain rfl : g = wb := by simpa [Value.ownBlock] using e
    unfold Wk at hw; rw [hw] at hh; simp at hh
theorem qy {w : World} {base : Nat} {v : Value} {n size : Nat} {e : TypeId} {xs : List Value} (h : w.ownsRow base e size v n xs) : ∀ g, v.ownBlock = some g → g < w.heap.size := fun g hg => (h.lt g hg).2
theorem ew (w : World) (o : Obj) : (w.alloc o).drew.heap[w.heap.size]? = some o := by show (w.heap.push o)[w.heap.size]? = _; simp
theorem gi {ops : Array Oper} {o : Oper} {a : Act} {w : World} {K : Act → World → Prop} {Q : Exit → Act → World → Prop} {E : Prop} (hgd : o.guard = none) (s x : Operand)
    (ho : o.op = .call { callee := .builtin .append, args := #[s, x], argTypes := #[22, 22] })
    (base : Nat) (v : Value) (n : Nat) (l1 : List ay) (hs : a.eval s = v) (hown : w.ownsRow base 31 5 v n (fl l1))
    (b0 : Nat) (x0 x1 x2 : Int) (x3 : ByteArray) (x4 : Int) (hx : a.eval x = .slice (some ⟨b0, 0, none⟩) 1 1) (hb : w.heap[b0]? = some (.cells #[.int .i64 x0, .int .i64 x1, .int .i64 x2, .string x3, .int .i64 x4] 31 (0, 0)))
    (h63 : n + 1 ≤ 1000000000) (hbase : base ≤ w.heap.size)
    (h : ∀ g cap w', w'.ownsRow base 31 5 (.slice (some ⟨g, 0, none⟩) (n + 1) cap) (n + 1) (fl (l1 ++ [⟨x0, x1, x2, x3, x4⟩])) → w.grownBy w' v.ownBlock → (v.ownBlock = some g ∨ w.heap.size ≤ g) → K (a.put o.dst (.slice (some ⟨g, 0, none⟩) (n + 1) cap)) w') :
    if Region.wanted o (yielded ops a.tmps) = true then Oper.wp Tryz.prog o a w K Q else E := by
  obtain ⟨i0, hi, hz0, hz1, hz2⟩ := info_parts Tryz.info31; refine step_append_lies w hgd s x 22 ho base 31 i0 _ 5 48 Tryz.underlying22 hi hz0 hz1 hz2 rfl (by omega) v n (fl l1) hs hown ⟨b0, 0, none⟩ 1 1 (fl [⟨x0, x1, x2, x3, x4⟩]) hx (iQ _) ?_ (kO _) (by omega) (by unfold maxLen; omega) (by omega) hbase _ rfl ?_
  · exact World.news_of_block (cs := #[.int .i64 x0, .int .i64 x1, .int .i64 x2, .string x3, .int .i64 x4]) hb
  · intro g cap w' h1 h2 h3 _; exact h g cap w' (by rw [nM]; exact h1) h2 (h3.imp id (fun e => by omega))
def eY (w : World) (base wb : Nat) (inl : Bool) (kb : Nat) (op : Value) (us : Int) (o : Value) (lo l : List ay) (e : Ending) (w' : World) : Prop :=
  e = .returned (.tuple #[]) ∧ ∃ o', Wk w' wb inl kb op us o' ∧ w'.ownsRow base 31 5 o' (lo.length + l.length) (fl (lo ++ l)) ∧ di wb o.ownBlock w w' ∧ ∀ g, o'.ownBlock = some g → o.ownBlock = some g ∨ w.heap.size ≤ g
theorem io (l lo : List ay) (v : Value) (base wb kb : Nat) (inl : Bool) (op : Value) (us : Int) (o : Value) (es : Array MapEntry) (clock : Nat) (f : ByteArray → Option js) (w : World) (hs : Sl w 5 ay.enc v l)
    (hw : Wk w wb inl kb op us o) (hown : w.ownsRow base 31 5 o lo.length (fl lo)) (hbase : base ≤ w.heap.size) (hm : w.heap[kb]? = some (.map es clock))
    (hf : tW es f) (hpl : ∀ t ∈ l, t.kind = 1 → f t.text = none) (hlen : lo.length + l.length ≤ 8192) :
    Calls Tryz.prog 76 #[.pointer (some ⟨wb, 0, none⟩), v] w (eY w base wb inl kb op us o lo l) := by
  obtain ⟨aa, ca, rfl, ma, HA⟩ := aV hs; clear HA; have hwb := hw.lt; have HS := qd hs; have HW := qd hw; have HO := qd hown; have HM := qd hm; have HF := qd hf; have HL := qd hpl; clear hs hw hown hm hf hpl; go_enter Tryz.func76, Tryz.ntmps76; go_wp2_with fail; refine (nR l _ wb kb es clock f _ HS.out (by omega) HW.out.c1 HM.out HF.out HL.out).mono ?_; rintro e w1 ⟨v1, rfl, hown1, hB1⟩; have HW1 := qd (HW.out.keep (hB1.block wb hwb)); have HO1 : Hid (w1.ownsRow base 31 5 o lo.length (fl lo)) := HO.out.kept (row := none) ⟨hB1.os, hB1.tape, hB1.output, hB1.size, fun k hk _ => hB1.block k hk⟩ (by
    cases o.ownBlock <;> simp)
  obtain ⟨a1, c1, rfl⟩ := bF hown1; have HR1 := qd (qy hown1); have HSl := qd (dc hown1); have HR2 : Hid (∀ g, (Value.slice a1 l.length c1).ownBlock = some g → w.heap.size ≤ g) := fun g hg => (hown1.lt g hg).1
  have HB1 := qd hB1; have hsz := hB1.size; clear hown1 hB1; go_wp2_with fail
  go_loopw [10] (fun i wr => ∃ (k : Nat) (o' : Value), k ≤ l.length ∧ i = .int .i64 k ∧ Hid (Wk wr wb inl kb op us o') ∧ Hid (wr.ownsRow base 31 5 o' (lo.length + k) (fl (lo ++ l.take k))) ∧ Hid (di wb o.ownBlock w1 wr) ∧ Hid (∀ g, o'.ownBlock = some g → o.ownBlock = some g ∨ w1.heap.size ≤ g)) (fun i _ => l.length - (intOf i).toNat)
  case atStart => exact ⟨0, o, Nat.zero_le _, rfl, HW1, qd (show w1.ownsRow base 31 5 o (lo.length + 0) (fl (lo ++ l.take 0)) by simpa using HO1.out), di.of_below br, fun g hg => .inl hg⟩
  case round =>
    obtain ⟨k, o', hk, rfl, hw, hown, hout, hob⟩ := hrel
    by_cases hlt : k < l.length
    · have hn0 : lo.length + k < 8192 := by omega
      have hlen2 : (lo ++ l.take k).length = lo.length + k := by simp; omega
      generalize hnn : lo.length + k = n at *; obtain ⟨_, _, e, _, hx⟩ := aV HSl.out; injection e with e1 e2 e3; subst e1; subst e3; obtain ⟨b, off, rfl, hb, hc⟩ := hx.out (by omega); have hbw : w.heap.size ≤ b := HR2.out b rfl; have hbne : o.ownBlock ≠ some b := fun h => by have := qy HO.out b h; omega
      have cc := cK (w := wr) (b := b) (off := off + k * 5) fun j hj => (World.cell?_of_block (w := w1) (w' := wr) (hout.out.block b hb (by omega) hbne)).trans (hc k hlt j hj)
      have HT := qd (dB l k hlt); clear hc hx; generalize l.getD k default = x at *; obtain ⟨x0, x1, x2, x3, x4⟩ := x; obtain ⟨c0, c1', c2, c3, c4⟩ := cc; simp only at c0 c1' c2 c3 c4; obtain ⟨ao, co, rfl⟩ := bF hown.out; have hsw := hout.out.size; have hwr := hw.out.lt; have k4 := hw.out.c4; have e8 : ((n : Int) == 8192) = false := by rw [beq_eq_false_iff_ne]; omega
      have HN := qd hnn; have HLE := qd hlen2; clear hnn hlen2; go_wp2_with fail; generalize hW2 : World.alloc wr _ = W2; have HG : Hid (Below wr.heap.size wr W2) := by rw [← hW2]; exact br.alloc (Nat.le_refl _) _
      have hs2 : wr.heap.size < W2.heap.size := by rw [← hW2]; simp [go_sem]
      have t0 : W2.cell? ⟨wr.heap.size, 0, none⟩ = some (.int .i64 x0) := by rw [← hW2]; simp [go_sem]
      have t1 : W2.cell? ⟨wr.heap.size, 1, none⟩ = some (.int .i64 x1) := by rw [← hW2]; simp [go_sem]
      have t2 : W2.cell? ⟨wr.heap.size, 2, none⟩ = some (.int .i64 x2) := by rw [← hW2]; simp [go_sem]
      have t3 : W2.cell? ⟨wr.heap.size, 3, none⟩ = some (.string x3) := by rw [← hW2]; simp [go_sem]
      have t4 : W2.cell? ⟨wr.heap.size, 4, none⟩ = some (.int .i64 x4) := by rw [← hW2]; simp [go_sem]
      have HO2 : Hid (W2.ownsRow base 31 5 (.slice ao n co) n (fl (lo ++ l.take k))) := by rw [← hW2]; exact hown.out.alloc _
      have HU2 : Hid (di wb o.ownBlock w1 W2) := by rw [← hW2]; exact hout.out.alloc _
      clear hW2 c0 c1' c2 c3 c4 k4; have HW2 := qd (hw.out.keep (HG.out.block wb hwr)); have k4 := HW2.out.c4; have hw2 := HW2.out.lt; have hbs : base ≤ W2.heap.size := by omega
      go_region_law (refine gi rfl (.tmp 27) (.tmp 29) rfl base _ n (lo ++ l.take k) rfl (HO2.out.alloc _).drew W2.heap.size x0 x1 x2 x3 x4 rfl (ew W2 _) (by omega) (by simp; omega) ?_; intro g cap w3 h1 h2 h3; have q4 := (Wk.keep HW2.out ((h2.block wb (by simp; omega) (kA HO2.out HW2.out).symm).trans (Below.heap_alloc _ _ _ hw2))).c4; have z4 := (Wk.keep HW2.out ((h2.block wb (by simp; omega) (kA HO2.out HW2.out).symm).trans (Below.heap_alloc _ _ _ hw2))).free 4)
      all_goals
        have HW3 := qd (Wk.keep HW2.out ((h2.block wb (by simp; omega) (kA HO2.out HW2.out).symm).trans (Below.heap_alloc _ _ _ hw2))); have HO3 : Hid ((w3.setCell ⟨wb, 4, none⟩ (.slice (some ⟨g, 0, none⟩) (n + 1) cap)).ownsRow base 31 5 (.slice (some ⟨g, 0, none⟩) (n + 1) cap) (lo.length + (k + 1)) (fl (lo ++ l.take (k + 1)))) := by
          rw [HT.out, ← Nat.add_assoc, HN.out, ← List.append_assoc]; exact ownsRow_setCell_other h1 (kA h1 HW3.out) _
        have HU3 := qd ((((HU2.out.alloc _).drew).grown h2 hob.out).setCell 4 (.slice (some ⟨g, 0, none⟩) (n + 1) cap)); have HB3 : Hid (∀ g', (Value.slice (some ⟨g, 0, none⟩) (n + 1) cap).ownBlock = some g' → o.ownBlock = some g' ∨ w1.heap.size ≤ g') := by
          intro g' hg'; obtain rfl : g = g' := by simpa [Value.ownBlock] using hg'
          rcases h3 with h3 | h3
          · exact hob.out g h3
          · right; simp at h3; omega
        clear h1 h2 h3; go_wp2; go_roundw
        case rel => exact ⟨k + 1, _, by omega, by go_num, HW3.out.set4 _, HO3, HU3, HB3⟩
        case measure => simp [intOf]; omega
    · go_wp2; refine bodyPost_ret (v := .tuple #[]) (by simp [results, Tryz.results76, go_sem]) rfl ?_; have : k = l.length := by omega
      subst this; have hown' := hown.out; rw [List.take_length] at hown'; exact ⟨rfl, o', hw.out, hown', (di.of_below HB1.out).trans hout.out (fun x hx => .inl hx), fun g hg => (hob.out g hg).imp id (fun h => by omega)⟩
structure Wd (S : World → Prop) where
  w : World
  h : S w
theorem fq {P : Program} {S : World → Prop} {id : Nat} {Q : Exit → Act → World → Prop} {a : Act} {w : World} {l : List Oper} (hm : P.follows .mixedOrders = true) (hB : Region.lexB .any l.toArray = true) (hS : S w.drew)
    (h : wpQuiet P l.toArray (fun w' => ∃ n : Wd S, w' = n.w) (fun a' => ∀ w', (∃ n : Wd S, w' = n.w) → Q .normal a' w') l a) : (Code.region id l.toArray true).wp P Q a w :=
  wp_region_quiet (C := fun w' => ∃ n : Wd S, w' = n.w) hm hB ⟨⟨_, hS⟩, rfl⟩ (by simpa using h)
def Sb (W : World) : World → Prop := fun w' => Below W.heap.size W w'
instance {W : World} : Nonempty (Wd (Sb W)) := ⟨⟨W, Below.refl _ _⟩⟩
theorem Wd.out {S : World → Prop} {w : World} (h : ∃ n : Wd S, w = n.w) : S w := by
  obtain ⟨n, rfl⟩ := h; exact n.h
theorem Wd.cell {W : World} (n : Wd (Sb W)) {p : Addr} {v : Value} (hp : p.block < W.heap.size) (h : W.cell? p = some v) : n.w.cell? p = some v := (Below.cell (p := p) n.h hp).trans h
theorem Wd.call {W : World} {P : Program} {f : FuncId} {args : Array Value} {v : Value} (n : Wd (Sb W)) (h : Calls P f args n.w fun e w' => e = .returned v ∧ Below n.w.heap.size n.w w') :
    Calls P f args n.w fun e w'' => e = .returned v ∧ ∃ m : Wd (Sb W), w'' = m.w :=
  h.mono fun _ _ ⟨he, hb⟩ => ⟨he, ⟨_, Below.trans n.h (hb.mono n.h.size)⟩, rfl⟩
theorem kI (t : ay) (s : ByteArray) (r : Bool) (w : World) (h : Hid (eK 4 t s = r)) : Calls Tryz.prog 74 #[t.val, .string s] w fun e w' => e = .returned (.bool r) ∧ Below w.heap.size w w' := by
  have := qJ t s w; rwa [h.out] at this
theorem rK (t : ay) (s : ByteArray) (r : Bool) (w : World) (h : Hid (eK 1 t s = r)) : Calls Tryz.prog 80 #[t.val, .string s] w fun e w' => e = .returned (.bool r) ∧ Below w.heap.size w w' := by
  have := p6 t s w; rwa [h.out] at this
theorem ug (wb kb : Nat) (inl : Bool) (us : Int) (o : Value) (w : World) (hw : Wk w wb inl kb (.slice none 0 0) us o) :
    Calls Tryz.prog 75 #[.pointer (some ⟨wb, 0, none⟩)] w fun e w' => e = .returned (.bool true) ∧ Below w.heap.size w w' := by
  have c2 := hw.c2; have HW := qd hw; clear hw; go_enter Tryz.func75, Tryz.ntmps75; go_wp2; go_region; go_wp2; go_ret; exact ⟨rfl, by go_grown⟩
theorem cw {w w' : World} {base : Nat} {e : TypeId} {v : Value} {n size : Nat} {xs : List Value} (h : w.ownsRow base e size v n xs) (hb : Below w.heap.size w w') : w'.ownsRow base e size v n xs :=
  h.kept (row := none) ⟨hb.os, hb.tape, hb.output, hb.size, fun k hk _ => hb.block k hk⟩ (by cases v.ownBlock <;> simp)
theorem bQ {w : World} {ops : Array Oper} {rest : List Oper} {o : Oper} {a : Act} {Q : Exit → Act → World → Prop} (hgd : o.guard = none) (s x : Operand)
    (ho : o.op = .call { callee := .builtin .append, args := #[s, x], argTypes := #[22, 22] })
    (base : Nat) (v : Value) (n : Nat) (l1 : List ay) (hs : a.eval s = v) (hown : w.ownsRow base 31 5 v n (fl l1))
    (b0 : Nat) (x0 x1 x2 : Int) (x3 : ByteArray) (x4 : Int) (hx : a.eval x = .slice (some ⟨b0, 0, none⟩) 1 1) (hb : w.heap[b0]? = some (.cells #[.int .i64 x0, .int .i64 x1, .int .i64 x2, .string x3, .int .i64 x4] 31 (0, 0)))
    (h63 : n + 1 ≤ 1000000000) (hbase : base ≤ w.heap.size)
    (h : ∀ g cap w', w'.ownsRow base 31 5 (.slice (some ⟨g, 0, none⟩) (n + 1) cap) (n + 1) (fl (l1 ++ [⟨x0, x1, x2, x3, x4⟩])) → w.grownBy w' v.ownBlock → (v.ownBlock = some g ∨ w.heap.size ≤ g) → wpList Tryz.prog ops Q rest (a.put o.dst (.slice (some ⟨g, 0, none⟩) (n + 1) cap)) w') : wpList Tryz.prog ops Q (o :: rest) a w := by
  obtain ⟨i0, hi, hz0, hz1, hz2⟩ := info_parts Tryz.info31; refine wpList_append_lies w hgd s x 22 ho base 31 i0 _ 5 48 Tryz.underlying22 hi hz0 hz1 hz2 rfl (by omega) v n (fl l1) hs hown ⟨b0, 0, none⟩ 1 1 (fl [⟨x0, x1, x2, x3, x4⟩]) hx (iQ _) ?_ (kO _) (by omega) (by unfold maxLen; omega) (by omega) hbase _ rfl ?_
  · exact World.news_of_block (cs := #[.int .i64 x0, .int .i64 x1, .int .i64 x2, .string x3, .int .i64 x4]) hb
  · intro g cap w' h1 h2 h3 _; exact h g cap w' (by rw [nM]; exact h1) h2 (h3.imp id (fun e => by omega))
theorem al (w : World) (o : Obj) : (w.alloc o).heap[w.heap.size]? = some o := by show (w.heap.push o)[w.heap.size]? = _; simp
theorem nA (l lo : List ay) (v : Value) (tk : ay) (base wb kb : Nat) (us : Int) (o : Value) (es : Array MapEntry) (clock : Nat) (f : ByteArray → Option js) (w : World) (hs : Sl w 5 ay.enc v l)
    (hw : Wk w wb false kb (.slice none 0 0) us o) (hown : w.ownsRow base 31 5 o lo.length (fl lo)) (hbase : base ≤ w.heap.size) (hm : w.heap[kb]? = some (.map es clock))
    (hf : tW es f) (hpl : ∀ t ∈ l, t.kind = 1 → f t.text = none) (hlen : lo.length + l.length ≤ 8192) (hno : ∀ t ∈ l, eK 4 t ⟨#[35]⟩ = false) :
    Calls Tryz.prog 73 #[.pointer (some ⟨wb, 0, none⟩), v, tk.val] w (eY w base wb false kb (.slice none 0 0) us o lo l) := by
  obtain ⟨aa, ca, rfl, ma, HA⟩ := aV hs; have hwb := hw.lt; have hkb : kb < w.heap.size := (Array.getElem?_eq_some_iff.1 hm).1; have HS := qd hs; have HW := qd hw; have HO := qd hown; have HM := qd hm; have HF := qd hf; have HL := qd hpl; have HNO := qd hno; clear hs hw hown hm hf hpl hno; unfold ay.val; go_enter Tryz.func73, Tryz.ntmps73; go_wp2_with fail
  go_loopw [6, 7] (fun r i wr => ∃ (k : Nat), k ≤ l.length ∧ i = .int .i64 k ∧ Hid (wr.ownsRow w.heap.size 31 5 r k (fl (l.take k))) ∧ Below w.heap.size w wr) (fun _ i _ => l.length - (intOf i).toNat)
  case atStart => exact ⟨0, Nat.zero_le _, rfl, World.ownsRow_nil _ _ _ _, by go_grown⟩
  case round =>
    obtain ⟨k, hk, rfl, hown, hB⟩ := hrel
    by_cases hlt : k < l.length
    · obtain ⟨b, off, rfl, hb, hc⟩ := HA.out (by omega); have cc := cK (w := wr) (b := b) (off := off + k * 5) fun j hj => (hB.cell (p := ⟨b, off + k * 5 + j, none⟩) hb).trans (hc k hlt j hj)
      have HX := qd (HNO.out (l.getD k default) (by simp [List.getD_eq_getElem?_getD, hlt])); have HT := qd (dB l k hlt); clear hc; generalize l.getD k default = x at *; obtain ⟨x0, x1, x2, x3, x4⟩ := x; obtain ⟨c0, c1, c2, c3, c4⟩ := cc; simp only at c0 c1 c2 c3 c4; have hsz := hB.size; have HB := qd hB; clear hB; go_wp2_with fail; generalize hW2 : World.alloc wr _ = W2; have HG : Hid (Below wr.heap.size wr W2) := by rw [← hW2]; exact br.alloc (Nat.le_refl _) _
      have hs2 : wr.heap.size < W2.heap.size := by rw [← hW2]; simp [go_sem]
      have t0 : W2.cell? ⟨wr.heap.size, 0, none⟩ = some (.int .i64 x0) := by rw [← hW2]; simp [go_sem]
      have t1 : W2.cell? ⟨wr.heap.size, 1, none⟩ = some (.int .i64 x1) := by rw [← hW2]; simp [go_sem]
      have t2 : W2.cell? ⟨wr.heap.size, 2, none⟩ = some (.int .i64 x2) := by rw [← hW2]; simp [go_sem]
      have t3 : W2.cell? ⟨wr.heap.size, 3, none⟩ = some (.string x3) := by rw [← hW2]; simp [go_sem]
      have t4 : W2.cell? ⟨wr.heap.size, 4, none⟩ = some (.int .i64 x4) := by rw [← hW2]; simp [go_sem]
      have HO2 : Hid (W2.ownsRow w.heap.size 31 5 u6 k (fl (l.take k))) := by rw [← hW2]; exact hown.out.alloc _
      clear hW2 c0 c1 c2 c3 c4 hown; have l0 : ∀ n : Wd (Sb W2), n.w.cell? ⟨wr.heap.size, 0, none⟩ = _ := fun n => n.cell hs2 t0
      have l1 : ∀ n : Wd (Sb W2), n.w.cell? ⟨wr.heap.size, 1, none⟩ = _ := fun n => n.cell hs2 t1
      have l2 : ∀ n : Wd (Sb W2), n.w.cell? ⟨wr.heap.size, 2, none⟩ = _ := fun n => n.cell hs2 t2
      have l3 : ∀ n : Wd (Sb W2), n.w.cell? ⟨wr.heap.size, 3, none⟩ = _ := fun n => n.cell hs2 t3
      have l4 : ∀ n : Wd (Sb W2), n.w.cell? ⟨wr.heap.size, 4, none⟩ = _ := fun n => n.cell hs2 t4
      refine fq (S := Sb W2) (by kernel_rfl) (by kernel_rfl) br.drew ?_
      repeat (go_big_quiet_step (first | (go_at_call 74; exact Wd.call _ (kI ⟨x0, x1, x2, x3, x4⟩ _ _ _ HX))))
      refine wpQuiet_nil ?_; intro w3 hw3; have HB3 : Hid (Below W2.heap.size W2 w3) := Wd.out hw3; clear l0 l1 l2 l3 l4 hw3; have HB23 : Hid (Below w.heap.size w w3) := (HB.out.trans (HG.out.mono hsz)).trans (HB3.out.mono (by omega)); go_wp2_with fail; refine (ug wb kb false us o _ (HW.out.keep (HB23.out.block wb hwb))).mono ?_; rintro e w4 ⟨rfl, hw4⟩; have hs3 := HB3.out.size; have hs4 := hw4.size; have HB24 : Hid (Below W2.heap.size W2 w4) := HB3.out.trans (hw4.mono hs3); have HB4 : Hid (Below w.heap.size w w4) := HB23.out.trans (hw4.mono HB23.out.size); have q0 := (HB24.out.cell (p := ⟨wr.heap.size, 0, none⟩) hs2).trans t0; have q1 := (HB24.out.cell (p := ⟨wr.heap.size, 1, none⟩) hs2).trans t1; have q2 := (HB24.out.cell (p := ⟨wr.heap.size, 2, none⟩) hs2).trans t2; have q3 := (HB24.out.cell (p := ⟨wr.heap.size, 3, none⟩) hs2).trans t3; have q4 := (HB24.out.cell (p := ⟨wr.heap.size, 4, none⟩) hs2).trans t4; have HO4 := qd (cw HO2.out HB24.out); clear t0 t1 t2 t3 t4 hw4; go_wp2_with (at_builtin; go_must (refine bQ rfl _ _ rfl w.heap.size _ k (l.take k) rfl (HO4.out.alloc _) w4.heap.size x0 x1 x2 x3 x4 rfl (al _ _) (by omega) (by simp; omega) ?c4))
      case c4 =>
        intro g cap w5 h1 h2 h3; have HO5 : Hid (w5.ownsRow w.heap.size 31 5 (.slice (some ⟨g, 0, none⟩) (k + 1) cap) (k + 1) (fl (l.take (k + 1)))) := by rw [HT.out]; exact h1
        have HB5 : Hid (Below w.heap.size w w5) := (HB4.out.alloc (by omega) _).grown h2 (by simp; omega) (fun g hg => (HO4.out.lt g hg).1); clear h1 h2 h3; go_wp2; go_roundw
        case rel => exact ⟨k + 1, by omega, by go_num, HO5, HB5.out⟩
        case measure => simp [intOf]; omega
    · have : k = l.length := by omega
      subst this; rw [List.take_length] at hown; have HB := qd hB; obtain ⟨ar, cr, rfl⟩ := bF hown.out; clear hB hk hlt; go_wp2_with fail; refine (io l lo _ base wb kb false (.slice none 0 0) us o es clock f _ (dc hown.out) (HW.out.keep (HB.out.block wb hwb)) (cw HO.out HB.out) (Nat.le_trans hbase HB.out.size) ((HB.out.block kb hkb).trans HM.out) HF.out HL.out hlen).mono ?_; rintro e w2 ⟨rfl, o', hW2, hO2, hU2, hb2⟩; have k2 := hW2.c2; have HP : Hid (eY w base wb false kb (.slice none 0 0) us o lo l (.returned (.tuple #[])) w2) := ⟨rfl, o', hW2, hO2, (di.of_below HB.out).trans hU2 (fun x hx => .inl hx), fun g hg => (hb2 g hg).imp id (fun h => by have := HB.out.size; omega)⟩; clear hW2 hO2 hU2 hb2; go_wp2; exact bodyPost_ret (v := .tuple #[]) (by simp [results, Tryz.results73, go_sem]) rfl HP.out
theorem nJ (l lo : List ay) (v : Value) (tk : ay) (base wb kb : Nat) (us : Int) (o : Value) (es : Array MapEntry) (clock : Nat) (f : ByteArray → Option js) (w : World) (hs : Sl w 5 ay.enc v l)
    (hw : Wk w wb true kb (.slice none 0 0) us o) (hown : w.ownsRow base 31 5 o lo.length (fl lo)) (hbase : base ≤ w.heap.size) (hm : w.heap[kb]? = some (.map es clock))
    (hf : tW es f) (hpl : ∀ t ∈ l, t.kind = 1 → f t.text = none) (hlen : lo.length + l.length ≤ 8192) (hno : ∀ t ∈ l, eK 1 t ⟨#[105, 110, 108, 105, 110, 101]⟩ = false ∧ eK 4 t ⟨#[123]⟩ = false ∧ eK 4 t ⟨#[125]⟩ = false) :
    Calls Tryz.prog 79 #[.pointer (some ⟨wb, 0, none⟩), v, tk.val] w (eY w base wb true kb (.slice none 0 0) us o lo l) := by
  obtain ⟨aa, ca, rfl, ma, HA⟩ := aV hs; have hwb := hw.lt; have hkb : kb < w.heap.size := (Array.getElem?_eq_some_iff.1 hm).1; have HS := qd hs; have HW := qd hw; have HO := qd hown; have HM := qd hm; have HF := qd hf; have HL := qd hpl; have HNO := qd hno; clear hs hw hown hm hf hpl hno; unfold ay.val; go_enter Tryz.func79, Tryz.ntmps79; go_wp2_with fail
  go_loopw [6, 7, 8] (fun r dp i wr => ∃ k : Nat, k ≤ l.length ∧ i = .int .i64 k ∧ dp = .int .i64 0 ∧ Hid (wr.ownsRow w.heap.size 31 5 r k (fl (l.take k))) ∧ Below w.heap.size w wr) (fun _ _ i _ => l.length - (intOf i).toNat)
  case atStart => exact ⟨0, Nat.zero_le _, rfl, rfl, World.ownsRow_nil _ _ _ _, by go_grown⟩
  case round =>
    obtain ⟨k, hk, rfl, rfl, hown, hB⟩ := hrel
    by_cases hlt : k < l.length
    · obtain ⟨b, off, rfl, hb, hc⟩ := HA.out (by omega); have cc := cK (w := wr) (b := b) (off := off + k * 5) fun j hj => (hB.cell (p := ⟨b, off + k * 5 + j, none⟩) hb).trans (hc k hlt j hj)
      obtain ⟨hx, hr1, hr2⟩ := HNO.out (l.getD k default) (by simp [List.getD_eq_getElem?_getD, hlt]); have HX := qd hx; have HR1 := qd hr1; have HR2 := qd hr2; clear hx hr1 hr2; have HT := qd (dB l k hlt); clear hc; generalize l.getD k default = x at *; obtain ⟨x0, x1, x2, x3, x4⟩ := x; obtain ⟨c0, c1, c2, c3, c4⟩ := cc; simp only at c0 c1 c2 c3 c4; have hsz := hB.size; have HB := qd hB; clear hB; go_wp2_with fail; generalize hW2 : World.alloc wr _ = W2; have HG : Hid (Below wr.heap.size wr W2) := by rw [← hW2]; exact br.alloc (Nat.le_refl _) _
      have hs2 : wr.heap.size < W2.heap.size := by rw [← hW2]; simp [go_sem]
      have t0 : W2.cell? ⟨wr.heap.size, 0, none⟩ = some (.int .i64 x0) := by rw [← hW2]; simp [go_sem]
      have t1 : W2.cell? ⟨wr.heap.size, 1, none⟩ = some (.int .i64 x1) := by rw [← hW2]; simp [go_sem]
      have t2 : W2.cell? ⟨wr.heap.size, 2, none⟩ = some (.int .i64 x2) := by rw [← hW2]; simp [go_sem]
      have t3 : W2.cell? ⟨wr.heap.size, 3, none⟩ = some (.string x3) := by rw [← hW2]; simp [go_sem]
      have t4 : W2.cell? ⟨wr.heap.size, 4, none⟩ = some (.int .i64 x4) := by rw [← hW2]; simp [go_sem]
      have HO2 : Hid (W2.ownsRow w.heap.size 31 5 u6 k (fl (l.take k))) := by rw [← hW2]; exact hown.out.alloc _
      clear hW2 c0 c1 c2 c3 c4 hown; refine (rK ⟨x0, x1, x2, x3, x4⟩ _ _ _ HX).mono ?_; rintro e w3 ⟨rfl, hw3⟩; have HB3 : Hid (Below W2.heap.size W2 w3) := hw3; have p0 := (HB3.out.cell (p := ⟨wr.heap.size, 0, none⟩) hs2).trans t0; have p1 := (HB3.out.cell (p := ⟨wr.heap.size, 1, none⟩) hs2).trans t1; have p2 := (HB3.out.cell (p := ⟨wr.heap.size, 2, none⟩) hs2).trans t2; have p3 := (HB3.out.cell (p := ⟨wr.heap.size, 3, none⟩) hs2).trans t3; have p4 := (HB3.out.cell (p := ⟨wr.heap.size, 4, none⟩) hs2).trans t4; clear hw3; go_wp2_with fail; refine (kI ⟨x0, x1, x2, x3, x4⟩ _ _ _ HR1).mono ?_; rintro e w4 ⟨rfl, hw4⟩; have HB4 : Hid (Below W2.heap.size W2 w4) := HB3.out.trans (hw4.mono HB3.out.size); have q0 := (HB4.out.cell (p := ⟨wr.heap.size, 0, none⟩) hs2).trans t0; have q1 := (HB4.out.cell (p := ⟨wr.heap.size, 1, none⟩) hs2).trans t1; have q2 := (HB4.out.cell (p := ⟨wr.heap.size, 2, none⟩) hs2).trans t2; have q3 := (HB4.out.cell (p := ⟨wr.heap.size, 3, none⟩) hs2).trans t3; have q4 := (HB4.out.cell (p := ⟨wr.heap.size, 4, none⟩) hs2).trans t4; clear p0 p1 p2 p3 p4; clear hw4; go_wp2_with fail; refine (kI ⟨x0, x1, x2, x3, x4⟩ _ _ _ HR2).mono ?_; rintro e w5 ⟨rfl, hw5⟩; have HB5 : Hid (Below W2.heap.size W2 w5) := HB4.out.trans (hw5.mono HB4.out.size); have s0 := (HB5.out.cell (p := ⟨wr.heap.size, 0, none⟩) hs2).trans t0; have s1 := (HB5.out.cell (p := ⟨wr.heap.size, 1, none⟩) hs2).trans t1; have s2 := (HB5.out.cell (p := ⟨wr.heap.size, 2, none⟩) hs2).trans t2; have s3 := (HB5.out.cell (p := ⟨wr.heap.size, 3, none⟩) hs2).trans t3; have s4 := (HB5.out.cell (p := ⟨wr.heap.size, 4, none⟩) hs2).trans t4; clear q0 q1 q2 q3 q4; clear hw5; have HO4 := qd (cw HO2.out HB5.out); have HBw : Hid (Below w.heap.size w w5) := (HB.out.trans (HG.out.mono hsz)).trans (HB5.out.mono (by omega)); have hszc := HB5.out.size; clear t0 t1 t2 t3 t4; go_wp2_with (at_builtin; go_must (refine bQ rfl _ _ rfl w.heap.size _ k (l.take k) rfl (HO4.out.alloc _) w5.heap.size x0 x1 x2 x3 x4 rfl (al _ _) (by omega) (by simp; omega) ?c4))
      case c4 =>
        intro g cap w9 h1 h2 h3; have HO5 : Hid (w9.ownsRow w.heap.size 31 5 (.slice (some ⟨g, 0, none⟩) (k + 1) cap) (k + 1) (fl (l.take (k + 1)))) := by rw [HT.out]; exact h1
        have HB5 : Hid (Below w.heap.size w w9) := (HBw.out.alloc (by omega) _).grown h2 (by simp; omega) (fun g hg => (HO4.out.lt g hg).1); clear h1 h2 h3; go_wp2; go_roundw
        case rel => exact ⟨k + 1, by omega, by go_num, rfl, HO5, HB5.out⟩
        case measure => simp [intOf]; omega
    · have : k = l.length := by omega
      subst this; rw [List.take_length] at hown; have HB := qd hB; obtain ⟨ar, cr, rfl⟩ := bF hown.out; clear hB hk hlt; go_wp2_with fail; refine (io l lo _ base wb kb true (.slice none 0 0) us o es clock f _ (dc hown.out) (HW.out.keep (HB.out.block wb hwb)) (cw HO.out HB.out) (Nat.le_trans hbase HB.out.size) ((HB.out.block kb hkb).trans HM.out) HF.out HL.out hlen).mono ?_; rintro e w2 ⟨rfl, o', hW2, hO2, hU2, hb2⟩; have HP : Hid (eY w base wb true kb (.slice none 0 0) us o lo l (.returned (.tuple #[])) w2) := ⟨rfl, o', hW2, hO2, (di.of_below HB.out).trans hU2 (fun x hx => .inl hx), fun g hg => (hb2 g hg).imp id (fun h => by have := HB.out.size; omega)⟩; clear hW2 hO2 hU2 hb2; go_wp2; exact bodyPost_ret (v := .tuple #[]) (by simp [results, Tryz.results79, go_sem]) rfl HP.out
end Go.Proofs.YthkebhjaaikopaaGreatDoor.Px

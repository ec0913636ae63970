/-
  The closures of Macros and Inlines, where there is no directive and no definition.
-/
import Derived.Test.YtaliplbbmhfenaaF
import Derived.Deep.RegionWith
namespace Go.Proofs.Ytaliplbbmhfenaa
open Go.MapKept Go.ChangeShapes Go.WideShapes Go.ChangeAt Go.RowKit Go.Deep Go.Joins Go.Instr
/-- A world of a class. -/
structure Wd (S : World → Prop) where
  w : World
  h : S w
theorem wp_region_quiet_cls {P : Program} {S : World → Prop} {id : Nat} {Q : Exit → Act → World → Prop} {a : Act} {w : World} {l : List Oper} (hm : P.follows .mixedOrders = true) (hB : Region.lexB .any l.toArray = true) (hS : S w.drew)
    (h : wpQuiet P l.toArray (fun w' => ∃ n : Wd S, w' = n.w) (fun a' => ∀ w', (∃ n : Wd S, w' = n.w) → Q .normal a' w') l a) : (Code.region id l.toArray true).wp P Q a w :=
  wp_region_quiet (C := fun w' => ∃ n : Wd S, w' = n.w) hm hB ⟨⟨_, hS⟩, rfl⟩ (by simpa using h)
/-- The worlds behind one in which the row lies. -/
def Sb (W : World) : World → Prop := fun w' => Below W.heap.size W w'
instance {W : World} : Nonempty (Wd (Sb W)) := ⟨⟨W, Below.refl _ _⟩⟩
theorem Wd.out {S : World → Prop} {w : World} (h : ∃ n : Wd S, w = n.w) : S w := by
  obtain ⟨n, rfl⟩ := h
  exact n.h
theorem Wd.cell {W : World} (n : Wd (Sb W)) {p : Addr} {v : Value} (hp : p.block < W.heap.size) (h : W.cell? p = some v) : n.w.cell? p = some v := (Below.cell (p := p) n.h hp).trans h
theorem Wd.call {W : World} {P : Program} {f : FuncId} {args : Array Value} {v : Value} (n : Wd (Sb W)) (h : Calls P f args n.w fun e w' => e = .returned v ∧ Below n.w.heap.size n.w w') :
    Calls P f args n.w fun e w'' => e = .returned v ∧ ∃ m : Wd (Sb W), w'' = m.w :=
  h.mono fun _ _ ⟨he, hb⟩ => ⟨he, ⟨_, Below.trans n.h (hb.mono n.h.size)⟩, rfl⟩
theorem mark_is (t : TkD) (s : ByteArray) (r : Bool) (w : World) (h : Hid (isF 4 t s = r)) : Calls Try.prog 14 #[t.val, .string s] w fun e w' => e = .returned (.bool r) ∧ Below w.heap.size w w' := by
  have := mark_any t s w
  rwa [h.out] at this
theorem word_is (t : TkD) (s : ByteArray) (r : Bool) (w : World) (h : Hid (isF 1 t s = r)) : Calls Try.prog 21 #[t.val, .string s] w fun e w' => e = .returned (.bool r) ∧ Below w.heap.size w w' := by
  have := word_any t s w
  rwa [h.out] at this
set_option maxHeartbeats 1000000 in
theorem kept0 (wb kb : Nat) (inl : Bool) (us : Int) (o : Value) (w : World) (hw : Wk w wb inl kb (.slice none 0 0) us o) :
    Calls Try.prog 15 #[.pointer (some ⟨wb, 0, none⟩)] w fun e w' => e = .returned (.bool true) ∧ Below w.heap.size w w' := by
  have c2 := hw.c2
  have HW := Lib.hid hw
  clear hw
  go_enter Try.func15, Try.ntmps15
  go_wp2
  go_region
  go_wp2
  go_ret
  exact ⟨rfl, by go_grown⟩
theorem own_below {w w' : World} {base : Nat} {e : TypeId} {v : Value} {n size : Nat} {xs : List Value} (h : w.ownsRow base e size v n xs) (hb : Below w.heap.size w w') : w'.ownsRow base e size v n xs :=
  h.kept (row := none) ⟨hb.os, hb.tape, hb.output, hb.size, fun k hk _ => hb.block k hk⟩ (by cases v.ownBlock <;> simp)
/-- append of one token, in a plain region. -/
theorem wpList_push {w : World} {ops : Array Oper} {rest : List Oper} {o : Oper} {a : Act} {Q : Exit → Act → World → Prop} (hgd : o.guard = none) (s x : Operand)
    (ho : o.op = .call { callee := .builtin .append, args := #[s, x], argTypes := #[22, 22] })
    (base : Nat) (v : Value) (n : Nat) (l1 : List TkD) (hs : a.eval s = v) (hown : w.ownsRow base 25 5 v n (fl l1))
    (b0 : Nat) (x0 x1 x2 : Int) (x3 : ByteArray) (x4 : Int) (hx : a.eval x = .slice (some ⟨b0, 0, none⟩) 1 1) (hb : w.heap[b0]? = some (.cells #[.int .i64 x0, .int .i64 x1, .int .i64 x2, .string x3, .int .i64 x4] 25 (0, 0)))
    (h63 : n + 1 ≤ 1000000000) (hbase : base ≤ w.heap.size)
    (h : ∀ g cap w', w'.ownsRow base 25 5 (.slice (some ⟨g, 0, none⟩) (n + 1) cap) (n + 1) (fl (l1 ++ [⟨x0, x1, x2, x3, x4⟩])) → w.grownBy w' v.ownBlock → (v.ownBlock = some g ∨ w.heap.size ≤ g) → wpList Try.prog ops Q rest (a.put o.dst (.slice (some ⟨g, 0, none⟩) (n + 1) cap)) w') : wpList Try.prog ops Q (o :: rest) a w := by
  obtain ⟨i0, hi, hz0, hz1, hz2⟩ := info_parts Try.info25
  refine wpList_append_lies w hgd s x 22 ho base 25 i0 _ 5 48 Try.underlying22 hi hz0 hz1 hz2 rfl (by omega) v n (fl l1) hs hown ⟨b0, 0, none⟩ 1 1 (fl [⟨x0, x1, x2, x3, x4⟩]) hx (fl_len _) ?_ (fl_one' _) (by omega) (by unfold maxLen; omega) (by omega) hbase _ rfl ?_
  · exact World.news_of_block (cs := #[.int .i64 x0, .int .i64 x1, .int .i64 x2, .string x3, .int .i64 x4]) hb
  · intro g cap w' h1 h2 h3 _
    exact h g cap w' (by rw [fl_app]; exact h1) h2 (h3.imp id (fun e => by omega))
theorem heap_new' (w : World) (o : Obj) : (w.alloc o).heap[w.heap.size]? = some o := by show (w.heap.push o)[w.heap.size]? = _; simp
set_option maxHeartbeats 4000000 in
theorem mac1_plain (l lo : List TkD) (v : Value) (tk : TkD) (base wb kb : Nat) (us : Int) (o : Value) (es : Array MapEntry) (clock : Nat) (f : ByteArray → Option MacD) (w : World) (hs : Sl w 5 TkD.enc v l)
    (hw : Wk w wb false kb (.slice none 0 0) us o) (hown : w.ownsRow base 25 5 o lo.length (fl lo)) (hbase : base ≤ w.heap.size) (hm : w.heap[kb]? = some (.map es clock))
    (hf : Kno es f) (hpl : ∀ t ∈ l, t.kind = 1 → f t.text = none) (hlen : lo.length + l.length ≤ 8192) (hno : ∀ t ∈ l, isF 4 t ⟨#[35]⟩ = false) :
    Calls Try.prog 13 #[.pointer (some ⟨wb, 0, none⟩), v, tk.val] w (TellPost w base wb false kb (.slice none 0 0) us o lo l) := by
  obtain ⟨aa, ca, rfl, ma, HA⟩ := sl_open hs
  have hwb := hw.lt
  have hkb : kb < w.heap.size := (Array.getElem?_eq_some_iff.1 hm).1
  have HS := Lib.hid hs; have HW := Lib.hid hw; have HO := Lib.hid hown; have HM := Lib.hid hm; have HF := Lib.hid hf; have HL := Lib.hid hpl; have HNO := Lib.hid hno
  clear hs hw hown hm hf hpl hno
  unfold TkD.val
  go_enter Try.func13, Try.ntmps13
  go_wp2_with fail
  go_loopw [6, 7] (fun r i wr => ∃ (k : Nat), k ≤ l.length ∧ i = .int .i64 k ∧ Hid (wr.ownsRow w.heap.size 25 5 r k (fl (l.take k))) ∧ Below w.heap.size w wr) (fun _ i _ => l.length - (intOf i).toNat)
  case atStart => exact ⟨0, Nat.zero_le _, rfl, World.ownsRow_nil _ _ _ _, by go_grown⟩
  case round =>
    obtain ⟨k, hk, rfl, hown, hB⟩ := hrel
    by_cases hlt : k < l.length
    · obtain ⟨b, off, rfl, hb, hc⟩ := HA.out (by omega)
      have cc := tk_cells (w := wr) (b := b) (off := off + k * 5) fun j hj => (hB.cell (p := ⟨b, off + k * 5 + j, none⟩) hb).trans (hc k hlt j hj)
      have HX := Lib.hid (HNO.out (l.getD k default) (by simp [List.getD_eq_getElem?_getD, hlt]))
      have HT := Lib.hid (take_snoc l k hlt)
      clear hc
      generalize l.getD k default = x at *
      obtain ⟨x0, x1, x2, x3, x4⟩ := x
      obtain ⟨c0, c1, c2, c3, c4⟩ := cc
      simp only at c0 c1 c2 c3 c4
      have hsz := hB.size
      have HB := Lib.hid hB
      clear hB
      go_wp2_with fail
      generalize hW2 : World.alloc wr _ = W2
      have HG : Hid (Below wr.heap.size wr W2) := by rw [← hW2]; exact (Below.refl _ _).alloc (Nat.le_refl _) _
      have hs2 : wr.heap.size < W2.heap.size := by rw [← hW2]; simp [go_sem]
      have t0 : W2.cell? ⟨wr.heap.size, 0, none⟩ = some (.int .i64 x0) := by rw [← hW2]; simp [go_sem]
      have t1 : W2.cell? ⟨wr.heap.size, 1, none⟩ = some (.int .i64 x1) := by rw [← hW2]; simp [go_sem]
      have t2 : W2.cell? ⟨wr.heap.size, 2, none⟩ = some (.int .i64 x2) := by rw [← hW2]; simp [go_sem]
      have t3 : W2.cell? ⟨wr.heap.size, 3, none⟩ = some (.string x3) := by rw [← hW2]; simp [go_sem]
      have t4 : W2.cell? ⟨wr.heap.size, 4, none⟩ = some (.int .i64 x4) := by rw [← hW2]; simp [go_sem]
      have HO2 : Hid (W2.ownsRow w.heap.size 25 5 u6 k (fl (l.take k))) := by rw [← hW2]; exact hown.out.alloc _
      clear hW2 c0 c1 c2 c3 c4 hown
      have l0 : ∀ n : Wd (Sb W2), n.w.cell? ⟨wr.heap.size, 0, none⟩ = _ := fun n => n.cell hs2 t0
      have l1 : ∀ n : Wd (Sb W2), n.w.cell? ⟨wr.heap.size, 1, none⟩ = _ := fun n => n.cell hs2 t1
      have l2 : ∀ n : Wd (Sb W2), n.w.cell? ⟨wr.heap.size, 2, none⟩ = _ := fun n => n.cell hs2 t2
      have l3 : ∀ n : Wd (Sb W2), n.w.cell? ⟨wr.heap.size, 3, none⟩ = _ := fun n => n.cell hs2 t3
      have l4 : ∀ n : Wd (Sb W2), n.w.cell? ⟨wr.heap.size, 4, none⟩ = _ := fun n => n.cell hs2 t4
      refine wp_region_quiet_cls (S := Sb W2) (by kernel_rfl) (by kernel_rfl) (Below.refl _ _).drew ?_
      repeat (go_big_quiet_step (first | (go_at_call 14; exact Wd.call _ (mark_is ⟨x0, x1, x2, x3, x4⟩ _ _ _ HX))))
      refine wpQuiet_nil ?_
      intro w3 hw3
      have HB3 : Hid (Below W2.heap.size W2 w3) := Wd.out hw3
      clear l0 l1 l2 l3 l4 hw3
      have HB23 : Hid (Below w.heap.size w w3) := (HB.out.trans (HG.out.mono hsz)).trans (HB3.out.mono (by omega))
      go_wp2_with fail
      refine (kept0 wb kb false us o _ (HW.out.keep (HB23.out.block wb hwb))).mono ?_
      rintro e w4 ⟨rfl, hw4⟩
      have hs3 := HB3.out.size
      have hs4 := hw4.size
      have HB24 : Hid (Below W2.heap.size W2 w4) := HB3.out.trans (hw4.mono hs3)
      have HB4 : Hid (Below w.heap.size w w4) := HB23.out.trans (hw4.mono HB23.out.size)
      have q0 := (HB24.out.cell (p := ⟨wr.heap.size, 0, none⟩) hs2).trans t0
      have q1 := (HB24.out.cell (p := ⟨wr.heap.size, 1, none⟩) hs2).trans t1
      have q2 := (HB24.out.cell (p := ⟨wr.heap.size, 2, none⟩) hs2).trans t2
      have q3 := (HB24.out.cell (p := ⟨wr.heap.size, 3, none⟩) hs2).trans t3
      have q4 := (HB24.out.cell (p := ⟨wr.heap.size, 4, none⟩) hs2).trans t4
      have HO4 := Lib.hid (own_below HO2.out HB24.out)
      clear t0 t1 t2 t3 t4 hw4
      go_wp2_with (at_builtin; go_must (refine wpList_push rfl _ _ rfl w.heap.size _ k (l.take k) rfl (HO4.out.alloc _) w4.heap.size x0 x1 x2 x3 x4 rfl (heap_new' _ _) (by omega) (by simp; omega) ?c4))
      case c4 =>
        intro g cap w5 h1 h2 h3
        have HO5 : Hid (w5.ownsRow w.heap.size 25 5 (.slice (some ⟨g, 0, none⟩) (k + 1) cap) (k + 1) (fl (l.take (k + 1)))) := by rw [HT.out]; exact h1
        have HB5 : Hid (Below w.heap.size w w5) := (HB4.out.alloc (by omega) _).grown h2 (by simp; omega) (fun g hg => (HO4.out.lt g hg).1)
        clear h1 h2 h3
        go_wp2
        go_roundw
        case rel => exact ⟨k + 1, by omega, by go_num, HO5, HB5.out⟩
        case measure => simp [intOf]; omega
    · have : k = l.length := by omega
      subst this
      rw [List.take_length] at hown
      have HB := Lib.hid hB
      obtain ⟨ar, cr, rfl⟩ := own_slice hown.out
      clear hB hk hlt
      go_wp2_with fail
      refine (tell_plain l lo _ base wb kb false (.slice none 0 0) us o es clock f _ (sl_of_own hown.out) (HW.out.keep (HB.out.block wb hwb)) (own_below HO.out HB.out) (Nat.le_trans hbase HB.out.size) ((HB.out.block kb hkb).trans HM.out) HF.out HL.out hlen).mono ?_
      rintro e w2 ⟨rfl, o', hW2, hO2, hU2, hb2⟩
      have k2 := hW2.c2
      have HP : Hid (TellPost w base wb false kb (.slice none 0 0) us o lo l (.returned (.tuple #[])) w2) := ⟨rfl, o', hW2, hO2, (Outs.of_below HB.out).trans hU2 (fun x hx => .inl hx), fun g hg => (hb2 g hg).imp id (fun h => by have := HB.out.size; omega)⟩
      clear hW2 hO2 hU2 hb2
      go_wp2
      exact bodyPost_ret (v := .tuple #[]) (by simp [results, Try.results13, go_sem]) rfl HP.out
end Go.Proofs.Ytaliplbbmhfenaa

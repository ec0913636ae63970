/-
  filled: a body's tokens with the place of the name that is used (of what has no parameters).
-/
import Derived.Test.YtaliplbbmhfenaaL
namespace Go.Proofs.Ytaliplbbmhfenaa
open Go.MapKept Go.ChangeShapes Go.WideShapes Go.ChangeAt Go.RowKit Go.Deep Go.Joins Go.Instr
set_option maxHeartbeats 1000000 in
theorem index_nil (c : Nat) (s : ByteArray) (w : World) : Calls Try.prog 51 #[.slice none 0 c, .string s] w fun e w' => e = .returned (.int .i64 (-1)) ∧ Below w.heap.size w w' := by
  go_enter Try.func51, Try.ntmps51
  go_wp2
  refine wp_loop_rounds 1 ?_
  rw [rounds_succ]
  go_wp2
  go_ret
  exact ⟨rfl, by go_grown⟩
/-- A token at a place. -/
def put_ (a l : Int) (t : TkD) : TkD := { t with at' := a, line := l }
/-- What a variable of one slice of tokens comes to. -/
def PutPost (w : World) (base ob : Nat) (o : Value) (lo : List TkD) (x : TkD) (e : Ending) (w' : World) : Prop :=
  e = .returned (.tuple #[]) ∧ ∃ o', w'.heap[ob]? = some (.cells #[o'] 22 (0, 0)) ∧ w'.ownsRow base 25 5 o' (lo.length + 1) (fl (lo ++ [x])) ∧ OutsP (fun k => k = ob ∨ o.ownBlock = some k) w w' ∧ ∀ g, o'.ownBlock = some g → o.ownBlock = some g ∨ w.heap.size ≤ g
set_option maxHeartbeats 4000000 in
theorem put1 (lo : List TkD) (base ob tb xb c : Nat) (o : Value) (x : TkD) (y0 y1 y2 : Int) (y3 : ByteArray) (y4 : Int) (w : World)
    (ho : w.heap[ob]? = some (.cells #[o] 22 (0, 0))) (hown : w.ownsRow base 25 5 o lo.length (fl lo)) (hne : o.ownBlock ≠ some ob) (hbase : base ≤ w.heap.size) (hlen : lo.length ≤ 8192)
    (hy1 : w.cell? ⟨tb, 1, none⟩ = some (.int .i64 y1)) (hy2 : w.cell? ⟨tb, 2, none⟩ = some (.int .i64 y2))
    (hx : w.heap[xb]? = some (.cells #[.int .i64 y0, .int .i64 x.at', .int .i64 x.line, .string y3, .int .i64 y4] 25 (0, 0))) :
    Calls Try.prog 50 #[.slice (some ⟨xb, 0, none⟩) 1 c, .pointer (some ⟨ob, 0, none⟩), .pointer (some ⟨tb, 0, none⟩)] w (PutPost w base ob o lo ⟨y0, y1, y2, y3, y4⟩) := by
  obtain ⟨ao, co, rfl⟩ := own_slice hown
  generalize x.at' = z1 at *
  generalize x.line = z2 at *
  have hlt := lt_of_block ho
  have hltx := lt_of_block hx
  have x0 : w.cell? ⟨xb, 0, none⟩ = some (.int .i64 y0) := by rw [cell_of_row w xb 0 _ _ _ hx]; rfl
  have x1 : w.cell? ⟨xb, 1, none⟩ = some (.int .i64 z1) := by rw [cell_of_row w xb 1 _ _ _ hx]; rfl
  have x2 : w.cell? ⟨xb, 2, none⟩ = some (.int .i64 z2) := by rw [cell_of_row w xb 2 _ _ _ hx]; rfl
  have x3 : w.cell? ⟨xb, 3, none⟩ = some (.string y3) := by rw [cell_of_row w xb 3 _ _ _ hx]; rfl
  have x4 : w.cell? ⟨xb, 4, none⟩ = some (.int .i64 y4) := by rw [cell_of_row w xb 4 _ _ _ hx]; rfl
  have o0 : w.cell? ⟨ob, 0, none⟩ = some (.slice ao lo.length co) := cell_of_one ho
  have hlty := World.block_lt_of_cell? w _ hy1
  have HH := Lib.hid ho; have HX := Lib.hid hx; have HO := Lib.hid hown; have HN := Lib.hid hne
  clear ho hx hown hne
  go_enter Try.func50, Try.ntmps50
  go_wp2
  refine wp_loop_rounds 2 ?_
  rw [rounds_succ]
  go_wp2_with fail
  go_region
  all_goals
    go_wp2_with (at_builtin; go_must (refine wpList_push rfl _ _ rfl base _ lo.length lo rfl ((HO.out.alloc _).drew.alloc _) (w.heap.size + 1) y0 y1 y2 y3 y4 rfl ?c1 (by omega) (by simp <;> omega) ?c4))
  case c1 =>
    show ((w.heap.push _).push _)[w.heap.size + 1]? = _
    rw [Array.getElem?_push, if_pos (by simp)]
  case c4 =>
    intro g cap w3 h1 h2 h3
    have hb3 : w3.heap[ob]? = some (.cells #[.slice ao lo.length co] 22 (0, 0)) :=
      (h2.block ob (by simp <;> omega) (fun e => HN.out e.symm)).trans ((Below.heap_alloc _ _ _ (by simp <;> omega)).trans ((Below.heap_alloc _ _ _ hlt).trans HH.out))
    have f0 := cell_of_one hb3
    have z0 := free_of_one hb3
    have HS3 := Lib.hid (one_setCell (u := .slice (some ⟨g, 0, none⟩) (lo.length + 1) cap) hb3)
    have hgne : (Value.slice (some ⟨g, 0, none⟩) (lo.length + 1) cap).ownBlock ≠ some ob := by
      intro e
      obtain ⟨g', cap', e2, _⟩ := h1.form (by omega)
      rcases h1.2 with ⟨e3, _⟩ | ⟨g2, cap2, cur, e3, _, hh, _⟩
      · simp at e3
      · have e4 : g = ob := by simpa [Value.ownBlock] using e
        injection e3 with e5 e6 e7
        injection e5 with e5
        injection e5 with e5
        rw [← e5, e4, hb3] at hh
        simp at hh
    have HO3 := Lib.hid (ownsRow_setCell_other h1 (a := ⟨ob, 0, none⟩) hgne (.slice (some ⟨g, 0, none⟩) (lo.length + 1) cap))
    have HU3 : Hid (OutsP (fun k => k = ob ∨ (Value.slice ao lo.length co).ownBlock = some k) w (w3.setCell ⟨ob, 0, none⟩ (.slice (some ⟨g, 0, none⟩) (lo.length + 1) cap))) :=
      (((((OutsP.refl _ w).alloc _).alloc _).drew).grown h2 (fun k hk => .inl (.inr hk))).setCell (p := ⟨ob, 0, none⟩) (.inl (.inl rfl)) _
    have HB3 : Hid (∀ g', (Value.slice (some ⟨g, 0, none⟩) (lo.length + 1) cap).ownBlock = some g' → (Value.slice ao lo.length co).ownBlock = some g' ∨ w.heap.size ≤ g') := by
      intro g' hg'
      obtain rfl : g = g' := by simpa [Value.ownBlock] using hg'
      exact h3.imp id (fun h => by omega)
    clear h1 h2 h3 hb3 hgne
    go_wp2
    rw [rounds_succ]
    go_wp2
    exact bodyPost_ret (v := .tuple #[]) (by simp [results, Try.results50, go_sem]) rfl ⟨rfl, _, HS3.out, HO3.out, HU3.out, HB3.out⟩
theorem fl_map_take (p : TkD → TkD) (l : List TkD) (k : Nat) (h : k < l.length) : (l.take (k + 1)).map p = (l.take k).map p ++ [p (l.getD k default)] := by
  rw [take_snoc l k h, List.map_append]; rfl
set_option maxHeartbeats 8000000 in
theorem filled_any (B : List TkD) (wb bc : Nat) (wi : Bool) (ba : Option Addr) (tk : TkD) (w : World) (hw : w.cell? ⟨wb, 0, none⟩ = some (.bool false)) (hs : Sl w 5 TkD.enc (.slice ba B.length bc) B) (hl : B.length ≤ 8192) :
    Calls Try.prog 38 #[.pointer (some ⟨wb, 0, none⟩), .agg #[.bool wi, .slice none 0 0, .slice ba B.length bc], .slice none 0 0, tk.val] w
      fun e w' => ∃ v', e = .returned v' ∧ w'.ownsRow w.heap.size 25 5 v' B.length (fl (B.map (put_ tk.at' tk.line))) ∧ Below w.heap.size w w' := by
  obtain ⟨_, _, e, ma, HA⟩ := sl_open hs
  injection e with e1 e2 e3
  subst e1; subst e3
  have hwb : wb < w.heap.size := World.block_lt_of_cell? w _ hw
  have hmf : ∀ (fn : Fn) (first cap : Array Value) (w : World), (Instr.makeFunc fn first cap).run Try.prog w = .ok (.func fn first cap) w := fun _ _ _ _ => rfl
  have hwb1 : wb < w.heap.size + 1 := by omega
  have hwb2 : wb < w.heap.size + 1 + 1 := by omega
  clear hs e2
  obtain ⟨t0, t1, t2, t3, t4⟩ := tk
  unfold TkD.val
  simp only
  go_enter Try.func38, Try.ntmps38
  go_wp2_with fail
  generalize hW1 : World.alloc (World.alloc (World.alloc w _) _) _ = W1
  have HB1 : Hid (Below w.heap.size w W1) := by rw [← hW1]; exact ((((Below.refl _ _).alloc (Nat.le_refl _) _).alloc (by simp <;> omega) _).alloc (by simp <;> omega) _)
  have hs1 : w.heap.size + 3 ≤ W1.heap.size := by rw [← hW1]; simp [go_sem]
  have HM : Hid (W1.heap[w.heap.size]? = some (.cells #[.bool wi, .slice none 0 0, .slice ba B.length bc] 58)) := by rw [← hW1]; unfold Hid; exact (Below.heap_alloc _ _ _ (by simp <;> omega)).trans ((Below.heap_alloc _ _ _ (by simp)).trans (heap_new' _ _))
  have HT : Hid (W1.heap[w.heap.size + 1]? = some (.cells #[.int .i64 t0, .int .i64 t1, .int .i64 t2, .string t3, .int .i64 t4] 25)) := by rw [← hW1]; exact at_mid w _ _ _
  have HOB : Hid (W1.heap[w.heap.size + 1 + 1]? = some (.cells #[.slice none 0 0] 22)) := by rw [← hW1]; exact at_end w _ _ _
  clear hW1
  go_loopw [26] (fun i wr => ∃ (k : Nat) (o : Value), k ≤ B.length ∧ i = .int .i64 k ∧ Hid (wr.heap[w.heap.size + 1 + 1]? = some (.cells #[o] 22 (0, 0))) ∧ Hid (wr.ownsRow (w.heap.size + 3) 25 5 o k (fl ((B.take k).map (put_ t1 t2)))) ∧ Hid (wr.heap[w.heap.size]? = some (.cells #[.bool wi, .slice none 0 0, .slice ba B.length bc] 58)) ∧ Hid (wr.heap[w.heap.size + 1]? = some (.cells #[.int .i64 t0, .int .i64 t1, .int .i64 t2, .string t3, .int .i64 t4] 25)) ∧ Below w.heap.size w wr ∧ w.heap.size + 3 ≤ wr.heap.size) (fun i _ => B.length - (intOf i).toNat)
  case atStart => exact ⟨0, _, Nat.zero_le _, rfl, HOB, World.ownsRow_nil _ _ _ _, HM, HT, HB1.out, hs1⟩
  case round =>
    obtain ⟨k, o, hk, rfl, hob, hown, hm, ht, hB, hsz⟩ := hrel
    by_cases hlt : k < B.length
    · obtain ⟨b, off, rfl, hb, hc⟩ := HA.out (by omega)
      have cc := tk_cells (w := wr) (b := b) (off := off + k * 5) fun j hj => (hB.cell (p := ⟨b, off + k * 5 + j, none⟩) hb).trans (hc k hlt j hj)
      have HX := Lib.hid (fl_map_take (put_ t1 t2) B k hlt)
      clear hc
      generalize B.getD k default = x at *
      obtain ⟨x0, x1, x2, x3, x4⟩ := x
      obtain ⟨c0, c1, c2, c3, c4⟩ := cc
      simp only at c0 c1 c2 c3 c4
      have HB := Lib.hid hB
      have hbr : b < wr.heap.size := by have := hB.size; omega
      clear hB
      have m1 : wr.cell? ⟨w.heap.size, 1, none⟩ = some (.slice none 0 0) := by rw [cell_of_row wr w.heap.size 1 _ _ _ hm.out]; rfl
      have hws : w.heap.size < wr.heap.size := by omega
      go_wp2_with fail
      generalize hW2 : World.alloc wr _ = W2
      have HG : Hid (Below wr.heap.size wr W2) := by rw [← hW2]; exact (Below.refl _ _).alloc (Nat.le_refl _) _
      have hs2 : wr.heap.size < W2.heap.size := by rw [← hW2]; simp [go_sem]
      have HX2 : Hid (W2.heap[wr.heap.size]? = some (.cells #[.int .i64 x0, .int .i64 x1, .int .i64 x2, .string x3, .int .i64 x4] 25)) := by rw [← hW2]; exact heap_new' _ _
      clear hW2 c0 c1 c2 c3 c4 m1
      refine (index_nil 0 x3 _).mono ?_
      rintro e w3 ⟨rfl, hw3⟩
      have HB3 := Lib.hid hw3
      have hs3 := hw3.size
      clear hw3
      have HX3 := Lib.hid ((HB3.out.block wr.heap.size hs2).trans HX2.out)
      have HB23 : Hid (Below wr.heap.size wr w3) := HG.out.trans (HB3.out.mono (by omega))
      have q0 : w3.cell? ⟨wr.heap.size, 0, none⟩ = some (.int .i64 x0) := by rw [cell_of_row w3 wr.heap.size 0 _ _ _ HX3.out]; rfl
      have q1 : w3.cell? ⟨wr.heap.size, 1, none⟩ = some (.int .i64 x1) := by rw [cell_of_row w3 wr.heap.size 1 _ _ _ HX3.out]; rfl
      have q2 : w3.cell? ⟨wr.heap.size, 2, none⟩ = some (.int .i64 x2) := by rw [cell_of_row w3 wr.heap.size 2 _ _ _ HX3.out]; rfl
      have q3 : w3.cell? ⟨wr.heap.size, 3, none⟩ = some (.string x3) := by rw [cell_of_row w3 wr.heap.size 3 _ _ _ HX3.out]; rfl
      have q4 : w3.cell? ⟨wr.heap.size, 4, none⟩ = some (.int .i64 x4) := by rw [cell_of_row w3 wr.heap.size 4 _ _ _ HX3.out]; rfl
      have T1 : Hid (w3.cell? ⟨w.heap.size + 1, 1, none⟩ = some (.int .i64 t1)) := (cell_of_row w3 (w.heap.size + 1) 1 _ _ _ ((HB23.out.block _ (by omega)).trans ht.out)).trans rfl
      have T2 : Hid (w3.cell? ⟨w.heap.size + 1, 2, none⟩ = some (.int .i64 t2)) := (cell_of_row w3 (w.heap.size + 1) 2 _ _ _ ((HB23.out.block _ (by omega)).trans ht.out)).trans rfl
      have hlen3 : ((B.take k).map (put_ t1 t2)).length = k := by simp; omega
      have HOB3 := Lib.hid ((HB23.out.block (w.heap.size + 1 + 1) (by omega)).trans hob.out)
      have HO3 := Lib.hid (own_below hown.out HB23.out)
      by_cases h1 : x0 = 1
      all_goals
        try subst h1
        go_wp2_with fail
        refine (put1 ((B.take k).map (put_ t1 t2)) (w.heap.size + 3) (w.heap.size + 1 + 1) (w.heap.size + 1) w3.heap.size 1 o ⟨0, x1, x2, x3, 0⟩ _ t1 t2 x3 x4 _ ((Below.heap_alloc _ _ _ (by omega)).trans HOB3.out) (by rw [hlen3]; exact HO3.out.alloc _) (fun e => by have := (hown.out.lt _ e).1; omega) (by simp <;> omega) (by omega) ((((Below.refl _ _).alloc (Nat.le_refl _) _).cell (p := ⟨w.heap.size + 1, 1, none⟩) (show w.heap.size + 1 < w3.heap.size by omega)).trans T1.out) ((((Below.refl _ _).alloc (Nat.le_refl _) _).cell (p := ⟨w.heap.size + 1, 2, none⟩) (show w.heap.size + 1 < w3.heap.size by omega)).trans T2.out) (heap_new' _ _)).mono ?_
        rintro e w5 ⟨rfl, o5, hh5, hown5, hout5, hb5⟩
        rw [hlen3] at hown5
        have hne5 : ∀ x, x < w.heap.size + 2 → ¬ (x = w.heap.size + 1 + 1 ∨ o.ownBlock = some x) := fun x hx h => by
          rcases h with h | h
          · omega
          · have := (hown.out.lt _ h).1; omega
        have HH5 := Lib.hid hh5
        have HO5 : Hid (w5.ownsRow (w.heap.size + 3) 25 5 o5 (k + 1) (fl ((B.take (k + 1)).map (put_ t1 t2)))) := by rw [HX.out]; exact hown5
        have HM5 := Lib.hid ((hout5.block w.heap.size (by simp <;> omega) (hne5 _ (by omega))).trans ((Below.heap_alloc _ _ _ (by omega)).trans ((HB23.out.block w.heap.size hws).trans hm.out)))
        have HT5 := Lib.hid ((hout5.block (w.heap.size + 1) (by simp <;> omega) (hne5 _ (by omega))).trans ((Below.heap_alloc _ _ _ (by omega)).trans ((HB23.out.block (w.heap.size + 1) (by omega)).trans ht.out)))
        have HB5 : Hid (Below w.heap.size w w5) := ((HB.out.trans (HB23.out.mono (by omega))).alloc (by omega) _).trans (hout5.below (by simp <;> omega) (fun x hx => by
          by_cases h : x < w.heap.size + 2
          · exact absurd hx (hne5 x h)
          · omega))
        have hsz5 : w.heap.size + 3 ≤ w5.heap.size := by have := hout5.size; simp at this; omega
        clear hh5 hown5 hout5 hb5 hlen3
        go_wp2
        go_roundw
        case rel => exact ⟨k + 1, o5, by omega, by go_num, HH5, HO5, HM5, HT5, HB5.out, hsz5⟩
        case measure => simp [intOf]; omega
    · have : k = B.length := by omega
      subst this
      rw [List.take_length] at hown
      obtain ⟨ao, co, rfl⟩ := own_slice hown.out
      have f0 := cell_of_one hob.out
      have hw1 := (hB.cell (p := ⟨wb, 0, none⟩) hwb).trans hw
      have HB := Lib.hid hB
      clear hB hob hw
      go_wp2
      go_ret
      exact ⟨_, rfl, own_base hown.out (by omega), HB.out⟩
end Go.Proofs.Ytaliplbbmhfenaa

/-
  auto.Walk: one place looked at; its ways met.
-/
import Derived.Test.YtioacgjggogflabO
import Derived.Test.YtioacgjggogflabP
import Derived.Test.YtioacgjggogflabJ
import Derived.Laws.EntriesVeiled
namespace Go.Proofs.Ytioacgjggogflab
open Go.ChangeShapes Go.WideShapes Go.ChangeAt Go.RowKit Go.Deep Go.Joins Go.Instr
theorem lsOf_sl {w : World} {y : LoD} (hr : y.rd w) : ∀ e ∈ lsOf y, Sl w 9 TrD.enc e.v e.l := fun e he => by
  rcases List.mem_cons.1 he with rfl | h
  · exact hr.ov
  · exact (hr.esc e h).1
theorem way_to {w : World} {y : LoD} (hr : y.rd w) {i j b off n c : Nat} (hi : i < (lsOf y).length) (hj : j < ((lsOf y).getD i default).l.length) (hv : ((lsOf y).getD i default).v = .slice (some ⟨b, off, none⟩) n c) :
    b < w.heap.size ∧ w.cell? ⟨b, off + j * 9 + 7, none⟩ = some (.int .i64 (((lsOf y).getD i default).l.getD j default).to) := by
  have hs := lsOf_sl hr _ (mem_getD hi)
  obtain ⟨a, c2, e, -, H⟩ := sl_open hs
  obtain ⟨b2, o2, e2, hb, hc⟩ := H.out (by omega)
  rw [hv, e2] at e
  injection e with e _ _
  injection e with e
  injection e with e1 e3 _
  subst e1; subst e3
  exact ⟨hb, hc j hj 7 (by omega)⟩
def okW (n : Nat) (y : LoD) (i j : Nat) : Bool := ((lsOf y).take i).all (fun e => toB n e.l) && (((lsOf y).getD i default).l.take j).all (fun t => inF n t.to)
theorem okW_step (n : Nat) (y : LoD) (i j : Nat) (hj : j < ((lsOf y).getD i default).l.length) : okW n y i (j + 1) = (okW n y i j && inF n (((lsOf y).getD i default).l.getD j default).to) := by
  unfold okW
  rw [all_snoc _ _ j hj, Bool.and_assoc]
theorem okW_next (n : Nat) (y : LoD) (i : Nat) (hi : i < (lsOf y).length) : okW n y (i + 1) 0 = okW n y i ((lsOf y).getD i default).l.length := by
  unfold okW
  rw [all_snoc _ _ i hi, List.take_length, List.take_zero]
  simp [toB]
theorem okW_end (n : Nat) (y : LoD) : okW n y (lsOf y).length 0 = loB n y := by
  unfold okW
  rw [List.take_length, List.take_zero]
  simp [lsOf, loB, escB]
theorem okW_zero (n : Nat) (y : LoD) : okW n y 0 0 = true := by simp [okW]
theorem ev_low {w : World} {y : LoD} (hr : y.rd w) {k : Nat} (hk : y.ev.ownBlock = some k) (h0 : 0 < y.esc.length) : k < w.heap.size := by
  obtain ⟨a, c, e, -, H⟩ := sl_open hr.ev
  obtain ⟨b, o, e2, hb, -⟩ := H.out h0
  rw [e, e2] at hk
  have : b = k := by simpa [Value.ownBlock] using hk
  omega
set_option maxHeartbeats 2000000 in
/-- Each way of a place is asked whether it leads to a place. -/
theorem check_loc (x : PrD) (pb okb inb : Nat) (b0 : Bool) (y : LoD) (w0 w : World) (hy : y.rd w0) (hw : Below w0.heap.size w0 w) (h : OkB w pb okb inb x b0) (h1 : w0.heap.size ≤ okb) (h2 : pb ≠ okb) (h3 : inb ≠ okb) (hlv : Sl w0 7 LoD.enc x.lv x.locs) :
    Calls Try.prog 9 #[y.val, .func (.func 10) #[] #[.pointer (some ⟨okb, 0, none⟩), .pointer (some ⟨inb, 0, none⟩)]] w fun e w' => e = .returned (.tuple #[]) ∧ w'.heap[okb]? = some (.cells #[.bool (b0 && loB x.locs.length y)] 4 (0, 0)) ∧ OutsP (fun k => k = okb) w w' := by
  have hyw : y.rd w := hy.keep hw
  have hob := lt_of_block h.ok
  have hpb := lt_of_block h.p
  have hib := lt_of_block h.i
  refine (each_10 y _ _ w hyw.ov hyw.ev (fun e he => (hyw.esc e he).1) (fun i j w' => w'.heap[okb]? = some (.cells #[.bool (b0 && okW x.locs.length y i j)] 4 (0, 0)) ∧ OutsP (fun k => k = okb) w w') (fun w' hb => ?_) (fun i j b off n c w1 hi hj hv hI hz => ?_) (fun i w1 hi hI => ?_)).mono ?_
  · refine ⟨?_, OutsP.of_below hb⟩
    rw [okW_zero, Bool.and_true]
    exact (hb.block okb hob).trans h.ok
  · obtain ⟨hk, ho⟩ := hI
    obtain ⟨hbl, hto⟩ := way_to hy hi hj hv
    have hto1 : w1.cell? ⟨b, off + j * 9 + 7, none⟩ = some (.int .i64 (((lsOf y).getD i default).l.getD j default).to) := by
      refine (World.cell?_of_block (a := ⟨b, off + j * 9 + 7, none⟩) ?_).trans hto
      exact (ho.block b (by have := hw.size; omega) (by show ¬ b = okb; omega)).trans (hw.block b hbl)
    refine (do_ok x pb okb inb b (off + j * 9) _ _ w1 ⟨h.p.keep (ho.block pb hpb h2), hlv.keep (hw.trans (ho.below (by have := hw.size; omega) (fun q hq => by omega))), hk, (ho.block inb hib h3).trans h.i⟩ hto1).mono ?_
    rintro e w2 ⟨rfl, hk2, ho2⟩
    refine ⟨rfl, ⟨?_, ho.trans ho2 (fun q hq => .inl hq)⟩, ho2.size, ho2.block _ hz (by show ¬ w.heap.size = okb; omega), fun k hk h0 hl => ho2.block k (by omega) (by have := ev_low hy hk h0; show ¬ k = okb; omega)⟩
    rw [hk2, okW_step _ _ _ _ hj, Bool.and_assoc]
  · rw [okW_next _ _ _ hi]
    exact hI
  · rintro e w' ⟨rfl, hk, ho⟩
    rw [okW_end] at hk
    exact ⟨rfl, hk, ho⟩
theorem ow_neE {α : Type} {w : World} {base E F sz gb : Nat} {enc : α → Nat → Value} {v : Value} {l : List α} {cs : Array Value} (h : Ow w base E sz enc v l) (hg : w.heap[gb]? = some (.cells cs F (0, 0))) (hEF : E ≠ F) : v.ownBlock ≠ some gb := by
  intro e
  rcases h.2 with ⟨rfl, _⟩ | ⟨g, cap, cur, rfl, _, hh, _⟩
  · simp [Value.ownBlock] at e
  · obtain rfl : g = gb := by simpa [Value.ownBlock] using e
    rw [hg] at hh
    simp at hh
    exact hEF hh.2.symm
def preM (y : LoD) (i j : Nat) : List Int := tosL ((lsOf y).take i) ++ (((lsOf y).getD i default).l.take j).map TrD.to
theorem preM_zero (y : LoD) : preM y 0 0 = [] := by simp [preM, tosL]
theorem preM_step (y : LoD) (i j : Nat) (hj : j < ((lsOf y).getD i default).l.length) : preM y i (j + 1) = preM y i j ++ [(((lsOf y).getD i default).l.getD j default).to] := by
  unfold preM
  rw [map_take_snoc TrD.to _ j hj, List.append_assoc]
theorem preM_next (y : LoD) (i : Nat) (hi : i < (lsOf y).length) : preM y (i + 1) 0 = preM y i ((lsOf y).getD i default).l.length := by
  unfold preM
  rw [tosL_snoc _ i hi, List.take_length]
  simp
theorem preM_end (y : LoD) : preM y (lsOf y).length 0 = tosL (lsOf y) := by simp [preM]
theorem lo_in {n : Nat} {y : LoD} (h : loB n y = true) {i j : Nat} (hi : i < (lsOf y).length) (hj : j < ((lsOf y).getD i default).l.length) : inF n (((lsOf y).getD i default).l.getD j default).to = true := by
  have h1 : toB n ((lsOf y).getD i default).l = true := by
    unfold loB at h
    obtain ⟨h1, h2⟩ := Bool.and_eq_true_iff.1 h
    rcases List.mem_cons.1 (show (lsOf y).getD i default ∈ (⟨y.ov, y.out⟩ :: y.esc : List EsD) from mem_getD hi) with he | he
    · rw [he]; exact h1
    · exact List.all_eq_true.1 h2 _ he
  exact List.all_eq_true.1 h1 _ (mem_getD hj)
theorem tos_in {n : Nat} {y : LoD} (h : loB n y = true) : ∀ t ∈ tosL (lsOf y), inF n t = true := by
  intro t ht
  unfold tosL at ht
  obtain ⟨e, he, hm⟩ := List.mem_flatMap.1 ht
  obtain ⟨u, hu, rfl⟩ := List.mem_map.1 hm
  unfold loB at h
  obtain ⟨h1, h2⟩ := Bool.and_eq_true_iff.1 h
  rcases List.mem_cons.1 he with rfl | he
  · exact List.all_eq_true.1 h1 _ hu
  · exact List.all_eq_true.1 (List.all_eq_true.1 h2 _ he) _ hu
theorem foldM_len (l : List Int) : ∀ s : St, (foldM l s).1.length = s.1.length := by
  induction l with
  | nil => intro s; rfl
  | cons a l ih =>
    intro s
    show (foldM l (mt a s)).1.length = _
    rw [ih]
    unfold mt
    split <;> simp
def MeetL (w : World) (base nb ob : Nat) (nv ov : Value) (s : St) (e : Ending) (w' : World) : Prop :=
  e = .returned (.tuple #[]) ∧ ∃ ov', Gb w' base nb ob nv ov' s ∧ OutsP (fun k => k = ob ∨ nv.ownBlock = some k ∨ ov.ownBlock = some k) w w' ∧ ∀ k, ov'.ownBlock = some k → ov.ownBlock = some k ∨ w.heap.size < k
set_option maxHeartbeats 2000000 in
/-- Each way of a place is met. -/
theorem meet_loc (n base nb ob mb : Nat) (nv ov : Value) (s : St) (y : LoD) (w0 w : World) (hy : y.rd w0) (hw : Below w0.heap.size w0 w) (hG : Gb w base nb ob nv ov s) (hs : StI n s) (hn : n ≤ 1048576) (hlo : loB n y = true)
    (hm : w.heap[mb]? = some (.cells #[.func (.func 12) #[] #[.pointer (some ⟨nb, 0, none⟩), .pointer (some ⟨ob, 0, none⟩)]] 47 (0, 0))) (h1 : w0.heap.size ≤ base) (h2 : base ≤ w.heap.size) (h3 : w0.heap.size ≤ ob) (h4 : mb ≠ ob) :
    Calls Try.prog 9 #[y.val, .func (.func 13) #[] #[.pointer (some ⟨mb, 0, none⟩)]] w (MeetL w base nb ob nv ov (foldM (tosL (lsOf y)) s)) := by
  have hyw : y.rd w := hy.keep hw
  have hob := lt_of_block hG.b
  have hmb := lt_of_block hm
  have hnl : ∀ k, nv.ownBlock = some k → w0.heap.size ≤ k ∧ k < w.heap.size := fun k hk => ⟨Nat.le_trans h1 (hG.n.lt k hk).1, (hG.n.lt k hk).2⟩
  have hol : ∀ k, ov.ownBlock = some k → w0.heap.size ≤ k ∧ k < w.heap.size := fun k hk => ⟨Nat.le_trans h1 (hG.o.lt k hk).1, (hG.o.lt k hk).2⟩
  have hnm : nv.ownBlock ≠ some mb := ow_neE hG.n hm (by decide)
  have hom : ov.ownBlock ≠ some mb := ow_neE hG.o hm (by decide)
  refine (each_13 y _ w hyw.ov hyw.ev (fun e he => (hyw.esc e he).1) (fun i j w' => ∃ ov', Gb w' base nb ob nv ov' (foldM (preM y i j) s) ∧ OutsP (fun k => k = ob ∨ nv.ownBlock = some k ∨ ov.ownBlock = some k) w w' ∧ (∀ k, ov'.ownBlock = some k → ov.ownBlock = some k ∨ w.heap.size < k) ∧ StI n (foldM (preM y i j) s)) (fun w' hb => ?_) (fun i j b off c' c w1 hi hj hv hI hz => ?_) (fun i w1 hi hI => ?_)).mono ?_
  · rw [preM_zero]
    exact ⟨ov, ⟨(hb.block nb (lt_of_block hG.a)).trans hG.a, (hb.block ob hob).trans hG.b, hG.n.keep hb, hG.o.keep hb, hG.d, hG.ne⟩, OutsP.of_below hb, fun k hk => .inl hk, hs⟩
  · obtain ⟨ov1, hG1, ho, hov1, hst⟩ := hI
    obtain ⟨hbl, hto⟩ := way_to hy hi hj hv
    have hin := lo_in hlo hi hj
    have hto1 : w1.cell? ⟨b, off + j * 9 + 7, none⟩ = some (.int .i64 (((lsOf y).getD i default).l.getD j default).to) := by
      refine (World.cell?_of_block (a := ⟨b, off + j * 9 + 7, none⟩) ?_).trans hto
      refine (ho.block b (by have := hw.size; omega) (fun h => ?_)).trans (hw.block b hbl)
      rcases h with h | h | h
      · omega
      · have := (hnl b h).1; omega
      · have := (hol b h).1; omega
    have hm1 := (ho.block mb hmb (fun h => by
      rcases h with h | h | h
      · exact h4 h
      · exact hnm h
      · exact hom h)).trans hm
    refine (do_meet _ _ base nb ob mb b (off + j * 9) nv ov1 w1 hG1 hm1 (by rw [hst.len]; exact hin) (by have := hst.le; omega) (by omega) hto1).mono ?_
    rintro e w2 ⟨rfl, ov2, hG2, ho2, hov2⟩
    have e1 : foldM (preM y i (j + 1)) s = mt (((lsOf y).getD i default).l.getD j default).to (foldM (preM y i j) s) := by
      rw [preM_step _ _ _ hj, foldM_app]
      rfl
    have hS : ∀ x, (x = ob ∨ nv.ownBlock = some x ∨ ov1.ownBlock = some x) → (x = ob ∨ nv.ownBlock = some x ∨ ov.ownBlock = some x) ∨ w.heap.size < x := by
      intro x hx
      rcases hx with h | h | h
      · exact .inl (.inl h)
      · exact .inl (.inr (.inl h))
      · rcases hov1 x h with h | h
        · exact .inl (.inr (.inr h))
        · exact .inr h
    refine ⟨rfl, ⟨ov2, by rw [e1]; exact hG2, ho.trans ho2 (fun x hx => (hS x hx).imp_right Nat.le_of_lt), fun k hk => ?_, by rw [e1]; exact hst.mt hin⟩, ho2.size, ho2.block _ hz (fun h => ?_), fun k hk h0 hl => ho2.block k (by omega) (fun h => ?_)⟩
    · rcases hov2 k hk with h | h
      · exact hov1 k h
      · exact .inr (by omega)
    · rcases hS _ h with (h | h | h) | h
      · omega
      · have := (hnl _ h).2; omega
      · have := (hol _ h).2; omega
      · omega
    · have hkl := ev_low hy hk h0
      have := hw.size
      rcases hS _ h with (h | h | h) | h
      · omega
      · have := (hnl _ h).1; omega
      · have := (hol _ h).1; omega
      · omega
  · rw [preM_next _ _ hi]
    exact hI
  · rintro e w' ⟨rfl, ov', hG', ho, hov, -⟩
    rw [preM_end] at hG'
    exact ⟨rfl, ov', hG', ho, hov⟩
end Go.Proofs.Ytioacgjggogflab

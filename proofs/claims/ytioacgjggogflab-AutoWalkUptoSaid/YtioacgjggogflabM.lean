/-
  The closures of auto.Walk: inside, and one that asks it; meet.
-/
import Derived.Test.YtioacgjggogflabK
namespace Go.Proofs.Ytioacgjggogflab
open Go.ChangeShapes Go.WideShapes Go.ChangeAt Go.RowKit Go.Deep Go.Joins Go.Instr
/-- The box of a proctype. -/
def PBox (w : World) (pb : Nat) (x : PrD) : Prop := w.heap[pb]? = some (.cells #[.string x.name, .int .i64 x.params, x.fv, x.iv, x.lv, .int .i64 x.start, .int .i64 x.final, .int .i64 x.active, .int .i64 x.prio, .int .i64 x.provided] 26 (0, 0))
theorem PBox.c4 {w : World} {pb : Nat} {x : PrD} (h : PBox w pb x) : w.cell? ⟨pb, 4, none⟩ = some x.lv := by rw [cell_of_row w pb 4 _ _ _ h]; rfl
theorem PBox.keep {w w' : World} {pb : Nat} {x : PrD} (h : PBox w pb x) (hb : w'.heap[pb]? = w.heap[pb]?) : PBox w' pb x := hb.trans h
set_option maxHeartbeats 2000000 in
theorem in_any (x : PrD) (pb : Nat) (i : Int) (w : World) (hp : PBox w pb x) (hl : Sl w 7 LoD.enc x.lv x.locs) : Calls Try.prog 8 #[.int .i64 i, .pointer (some ⟨pb, 0, none⟩)] w fun e w' => e = .returned (.bool (inF x.locs.length i)) ∧ Below w.heap.size w w' := by
  have c4 := hp.c4
  obtain ⟨la, lc, h3, ml, -⟩ := sl_open hl
  rw [h3] at c4
  clear hp hl h3
  by_cases h0 : (0 : Int) ≤ i
  · by_cases h1 : i < (x.locs.length : Int)
    · go_enter Try.func8, Try.ntmps8
      go_wp2
      go_ret
      exact ⟨retb (by simp [inF, h0, h1]), by go_grown⟩
    · go_enter Try.func8, Try.ntmps8
      go_wp2
      go_ret
      exact ⟨retb (by simp [inF, h1]), by go_grown⟩
  · go_enter Try.func8, Try.ntmps8
    go_wp2
    go_ret
    exact ⟨retb (by simp [inF]; omega), by go_grown⟩
/-- The variables of auto.Walk's meet: two boxes. -/
structure Gb (w : World) (base nb ob : Nat) (nv ov : Value) (s : St) : Prop where
  a : w.heap[nb]? = some (.cells #[nv] 27 (0, 0))
  b : w.heap[ob]? = some (.cells #[ov] 27 (0, 0))
  n : Ow w base 3 1 iEnc nv s.1
  o : Ow w base 3 1 iEnc ov s.2
  d : ∀ k, nv.ownBlock = some k → ov.ownBlock ≠ some k
  ne : nb ≠ ob
def MeetB (w : World) (base nb ob : Nat) (nv ov : Value) (s : St) (e : Ending) (w' : World) : Prop :=
  e = .returned (.tuple #[]) ∧ ∃ ov', Gb w' base nb ob nv ov' s ∧ OutsP (fun k => k = ob ∨ nv.ownBlock = some k ∨ ov.ownBlock = some k) w w' ∧ ∀ k, ov'.ownBlock = some k → ov.ownBlock = some k ∨ w.heap.size ≤ k
theorem ow_ne27 {α : Type} {w : World} {base sz gb : Nat} {enc : α → Nat → Value} {v : Value} {l : List α} {cs : Array Value} (h : Ow w base 3 sz enc v l) (hg : w.heap[gb]? = some (.cells cs 27 (0, 0))) : v.ownBlock ≠ some gb := by
  intro e
  rcases h.2 with ⟨rfl, _⟩ | ⟨g, cap, cur, rfl, _, hh, _⟩
  · simp [Value.ownBlock] at e
  · obtain rfl : g = gb := by simpa [Value.ownBlock] using e
    rw [hg] at hh
    simp at hh
set_option maxHeartbeats 4000000 in
theorem bmeet_any (p : Int) (s : St) (base nb ob : Nat) (nv ov : Value) (w : World) (hG : Gb w base nb ob nv ov s) (hp : inF s.1.length p = true) (hz : s.2.length ≤ 1048576) (hbase : base ≤ w.heap.size) :
    Calls Try.prog 12 #[.int .i64 p, .pointer (some ⟨nb, 0, none⟩), .pointer (some ⟨ob, 0, none⟩)] w (MeetB w base nb ob nv ov (mt p s)) := by
  obtain ⟨h0, h1⟩ := inF_iff.1 hp
  obtain ⟨p, rfl⟩ : ∃ q : Nat, p = (q : Int) := ⟨p.toNat, by omega⟩
  have hpn : p < s.1.length := by omega
  have HG := Lib.hid hG
  have g0 : w.cell? ⟨nb, 0, none⟩ = some nv := by rw [cell_of_row w nb 0 _ _ _ hG.a]; rfl
  have g1 : w.cell? ⟨ob, 0, none⟩ = some ov := by rw [cell_of_row w ob 0 _ _ _ hG.b]; rfl
  have hnb := lt_of_block hG.a
  have hob := lt_of_block hG.b
  have hsl := sl_of_ow hG.n
  obtain ⟨rb, cn, hnv, -⟩ := hG.n.form (by omega)
  obtain ⟨ao, co, rfl⟩ := hG.o.slice
  subst hnv
  obtain ⟨an, cn2, e, mn, HNN⟩ := sl_open hsl
  injection e with e1 e2 e3
  subst e1; subst e3
  obtain ⟨b2, o2, e, hrb, hc⟩ := HNN.out (by omega)
  injection e with e
  injection e with e1 e2 _
  subst e1; subst e2
  have n0 := hc p hpn 0 (by omega)
  simp only [iEnc, Nat.mul_one, Nat.add_zero, Nat.zero_add] at n0
  have hmt : Hid (mt (p : Int) s = if s.1.getD p default < 0 then (s.1.set p s.2.length, s.2 ++ [(p : Int)]) else s) := rfl
  clear hG hsl hc HNN
  generalize s.1.getD p default = y at *
  by_cases hy : y < 0
  · rw [if_pos hy] at hmt
    rw [hmt.out]
    have z0 : w.frozen? ⟨rb, p, none⟩ = false := HG.out.n.frozenAt p
    have hrn : rb ≠ nb := fun e => ow_ne27 HG.out.n HG.out.a (by rw [← e]; rfl)
    have hro : rb ≠ ob := fun e => ow_ne27 HG.out.n HG.out.b (by rw [← e]; rfl)
    have HO1 : Hid (Ow (w.setCell ⟨rb, p, none⟩ (.int .i64 (s.2.length : Int))) base 3 1 iEnc (.slice ao s.2.length co) s.2) := ownsRow_setCell_other HG.out.o (a := ⟨rb, p, none⟩) (fun e => HG.out.d rb rfl e) _
    have HN1 : Hid (Ow (w.setCell ⟨rb, p, none⟩ (.int .i64 (s.2.length : Int))) base 3 1 iEnc (.slice (some ⟨rb, 0, none⟩) s.1.length cn) (s.1.set p s.2.length)) := by
      have h := (HG.out.n.stored p (.int .i64 (s.2.length : Int))).1
      have e : fle 1 iEnc (s.1.set p s.2.length) = (fle 1 iEnc s.1).set p (.int .i64 (s.2.length : Int)) := fle_ints_set _ _ _
      unfold Hid Ow
      rw [e, List.length_set]
      exact h
    go_enter Try.func12, Try.ntmps12
    go_wp2_with (at_builtin; go_must (refine wpList_push elt27 rfl _ _ rfl base iEnc (.slice ao s.2.length co) s.2 rfl (HO1.out.alloc _) w.heap.size (p : Int) _ rfl (heap_new_at _ _ _ (by simp)) rfl (by intro u hu; simp at hu; rw [hu]; rfl) (by omega) (by simp; omega) ?c4))
    case c4 =>
      intro g cap w5 h1 h2 h3
      have hgo : (Value.slice ao s.2.length co).ownBlock ≠ some ob := ow_ne27 HG.out.o HG.out.b
      have hgn : (Value.slice ao s.2.length co).ownBlock ≠ some nb := ow_ne27 HG.out.o HG.out.a
      have hg5 : w5.heap[ob]? = some (.cells #[.slice ao s.2.length co] 27 (0, 0)) := by
        refine (h2.block ob (by simp; omega) (fun e => hgo e.symm)).trans ((Below.heap_alloc _ _ _ (by simpa using hob)).trans ?_)
        exact (Below.heap_setCell _ _ _ _ (fun e => hro e.symm)).trans HG.out.b
      have ha5 : w5.heap[nb]? = some (.cells #[.slice (some ⟨rb, 0, none⟩) s.1.length cn] 27 (0, 0)) := by
        refine (h2.block nb (by simp; omega) (fun e => hgn e.symm)).trans ((Below.heap_alloc _ _ _ (by simpa using hnb)).trans ?_)
        exact (Below.heap_setCell _ _ _ _ (fun e => hrn e.symm)).trans HG.out.a
      have f1 : w5.cell? ⟨ob, 0, none⟩ = some (.slice ao s.2.length co) := by rw [cell_of_row w5 ob 0 _ _ _ hg5]; rfl
      have f2 : w5.frozen? ⟨ob, 0, none⟩ = false := frozen_of_row w5 ob 0 _ _ hg5
      have hgg : g ≠ ob := fun e => by
        subst e
        rcases h3 with h | h
        · exact hgo h
        · first | omega | (simp at h; omega)
      have HGR : Hid (MeetB w base nb ob (.slice (some ⟨rb, 0, none⟩) s.1.length cn) (.slice ao s.2.length co) (s.1.set p s.2.length, s.2 ++ [(p : Int)]) (.returned (.tuple #[])) (w5.setCell ⟨ob, 0, none⟩ (.slice (some ⟨g, 0, none⟩) (s.2.length + 1) cap))) := by
        refine ⟨rfl, .slice (some ⟨g, 0, none⟩) (s.2.length + 1) cap, ⟨?_, ?_, ?_, ?_, ?_, HG.out.ne⟩, ?_, ?_⟩
        · exact (Below.heap_setCell _ _ _ _ HG.out.ne).trans ha5
        · rw [heap_setCell_same w5 ob 0 _ 27 _ hg5]; rfl
        · exact ownsRow_setCell_other ((HN1.out.alloc _).kept h2 (.inr (fun e => HG.out.d rb rfl e.symm))) (a := ⟨ob, 0, none⟩) (by simpa [Value.ownBlock] using hro) _
        · exact ownsRow_setCell_other h1 (a := ⟨ob, 0, none⟩) (by simpa [Value.ownBlock] using hgg) _
        · intro k hk e
          have e1 : rb = k := by simpa [Value.ownBlock] using hk
          have e2 : g = k := by simpa [Value.ownBlock] using e
          subst e1; subst e2
          rcases h3 with h | h
          · exact HG.out.d _ rfl h
          · have := (HG.out.n.lt g rfl).2
            first | omega | (simp at h; omega)
        · exact (((((OutsP.refl (fun k => k = ob ∨ (Value.slice (some ⟨rb, 0, none⟩) s.1.length cn).ownBlock = some k ∨ (Value.slice ao s.2.length co).ownBlock = some k) w).setCell (p := ⟨rb, p, none⟩) (.inl (.inr (.inl rfl))) _).alloc _).grown h2 (fun k hk => .inl (.inr (.inr hk)))).setCell (p := ⟨ob, 0, none⟩) (.inl (.inl rfl)) _)
        · intro k hk
          have e2 : g = k := by simpa [Value.ownBlock] using hk
          subst e2
          rcases h3 with h | h
          · exact .inl h
          · exact .inr (by first | omega | (simp at h; omega))
      clear h1 h2 h3
      go_wp2
      go_end0
      exact HGR.out
  · rw [if_neg hy] at hmt
    rw [hmt.out]
    go_enter Try.func12, Try.ntmps12
    go_wp2
    go_end0
    exact ⟨rfl, _, HG.out, OutsP.refl _ _, fun k h => .inl h⟩
end Go.Proofs.Ytioacgjggogflab

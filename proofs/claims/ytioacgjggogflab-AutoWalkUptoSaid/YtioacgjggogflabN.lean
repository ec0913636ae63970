/-
  The closures of auto.Walk that are called with a way.
-/
import Derived.Test.YtioacgjggogflabM
namespace Go.Proofs.Ytioacgjggogflab
open Go.ChangeShapes Go.WideShapes Go.ChangeAt Go.RowKit Go.Deep Go.Joins Go.Instr
theorem in_is (x : PrD) (pb : Nat) (i : Int) (r : Bool) (w : World) (hp : PBox w pb x) (hl : Sl w 7 LoD.enc x.lv x.locs) (h : Hid (inF x.locs.length i = r)) : Calls Try.prog 8 #[.int .i64 i, .pointer (some ⟨pb, 0, none⟩)] w fun e w' => e = .returned (.bool r) ∧ Below w.heap.size w w' := by
  have := in_any x pb i w hp hl
  rwa [h.out] at this
/-- What 'ok' is told by. -/
structure OkB (w : World) (pb okb inb : Nat) (x : PrD) (b : Bool) : Prop where
  p : PBox w pb x
  lv : Sl w 7 LoD.enc x.lv x.locs
  ok : w.heap[okb]? = some (.cells #[.bool b] 4 (0, 0))
  i : w.heap[inb]? = some (.cells #[.func (.func 8) #[] #[.pointer (some ⟨pb, 0, none⟩)]] 42 (0, 0))
def DoOk (w : World) (okb : Nat) (b : Bool) (e : Ending) (w' : World) : Prop :=
  e = .returned (.tuple #[]) ∧ w'.heap[okb]? = some (.cells #[.bool b] 4 (0, 0)) ∧ OutsP (fun k => k = okb) w w'
set_option maxHeartbeats 4000000 in
theorem do_ok (x : PrD) (pb okb inb tb to_ : Nat) (b : Bool) (t : Int) (w : World) (h : OkB w pb okb inb x b) (ht : w.cell? ⟨tb, to_ + 7, none⟩ = some (.int .i64 t)) :
    Calls Try.prog 10 #[.pointer (some ⟨tb, to_, none⟩), .pointer (some ⟨okb, 0, none⟩), .pointer (some ⟨inb, 0, none⟩)] w (DoOk w okb (b && inF x.locs.length t)) := by
  have HH := Lib.hid h
  have c0 : w.cell? ⟨okb, 0, none⟩ = some (.bool b) := by rw [cell_of_row w okb 0 _ _ _ h.ok]; rfl
  have z0 : w.frozen? ⟨okb, 0, none⟩ = false := frozen_of_row w okb 0 _ _ h.ok
  have c1 : w.cell? ⟨inb, 0, none⟩ = some (.func (.func 8) #[] #[.pointer (some ⟨pb, 0, none⟩)]) := by rw [cell_of_row w inb 0 _ _ _ h.i]; rfl
  have hokb := lt_of_block h.ok
  clear h
  obtain ⟨r, HR⟩ : ∃ r, Hid (inF x.locs.length t = r) := ⟨_, rfl⟩
  rw [HR.out]
  cases b with
  | false =>
    go_enter Try.func10, Try.ntmps10
    go_wp2_with fail
    go_region
    all_goals
      go_wp2
      go_end0
      refine ⟨rfl, ?_, (OutsP.refl (fun k => k = okb) w).drew.setCell (p := ⟨okb, 0, none⟩) (.inl rfl) _⟩
      exact (heap_setCell_same w okb 0 _ 4 _ HH.out.ok)
  | true =>
    go_enter Try.func10, Try.ntmps10
    go_wp2_with fail
    go_region_law (first | (go_simp; go_at_call 8; refine (in_is x pb t r w.drew HH.out.p (HH.out.lv.keep (below_drew w)) HR).mono ?_; rintro e w1 ⟨rfl, hw1⟩; have HB1 := Lib.hid ((below_drew w).trans hw1); clear hw1; have hk1 := (HB1.out.block okb hokb).trans HH.out.ok; have d0 : w1.cell? ⟨okb, 0, none⟩ = some (.bool true) := (cell_of_row w1 okb 0 _ _ _ hk1).trans rfl; have y0 : w1.frozen? ⟨okb, 0, none⟩ = false := frozen_of_row w1 okb 0 _ _ hk1))
    all_goals
      go_wp2
      go_end0
      exact ⟨rfl, heap_setCell_same w1 okb 0 _ 4 _ hk1, (OutsP.of_below (S := fun k => k = okb) HB1.out).setCell (p := ⟨okb, 0, none⟩) (.inl rfl) _⟩
set_option maxHeartbeats 4000000 in
theorem do_meet (t : Int) (s : St) (base nb ob mb tb to_ : Nat) (nv ov : Value) (w : World) (hG : Gb w base nb ob nv ov s) (hm : w.heap[mb]? = some (.cells #[.func (.func 12) #[] #[.pointer (some ⟨nb, 0, none⟩), .pointer (some ⟨ob, 0, none⟩)]] 47 (0, 0))) (hp : inF s.1.length t = true) (hz : s.2.length ≤ 1048576) (hbase : base ≤ w.heap.size) (ht : w.cell? ⟨tb, to_ + 7, none⟩ = some (.int .i64 t)) :
    Calls Try.prog 13 #[.pointer (some ⟨tb, to_, none⟩), .pointer (some ⟨mb, 0, none⟩)] w (MeetB w base nb ob nv ov (mt t s)) := by
  have HG := Lib.hid hG; have HP := Lib.hid hp
  have c0 : w.cell? ⟨mb, 0, none⟩ = some (.func (.func 12) #[] #[.pointer (some ⟨nb, 0, none⟩), .pointer (some ⟨ob, 0, none⟩)]) := by rw [cell_of_row w mb 0 _ _ _ hm]; rfl
  clear hG hp hm
  generalize hM : mt t s = ms
  have HM := Lib.hid hM; clear hM
  go_enter Try.func13, Try.ntmps13
  go_wp2_with fail
  go_region_law (first | (go_simp; go_at_call 12; refine (bmeet_any t s base nb ob nv ov w.drew ⟨HG.out.a, HG.out.b, HG.out.n.keep (below_drew w), HG.out.o.keep (below_drew w), HG.out.d, HG.out.ne⟩ HP.out hz hbase).mono ?_; rintro e w1 ⟨rfl, ov1, h1, h2, h3⟩; have HQ : Hid (MeetB w base nb ob nv ov ms (.returned (.tuple #[])) w1) := ⟨rfl, ov1, by rw [← HM.out]; exact h1, ((OutsP.of_below (S := fun k => k = ob ∨ nv.ownBlock = some k ∨ ov.ownBlock = some k) (below_drew w)).trans h2 (fun x hx => .inl hx)), h3⟩; clear h1 h2 h3))
  all_goals
    go_wp2
    go_end0
    exact HQ.out
set_option maxHeartbeats 4000000 in
theorem do_ren (p : Nat) (N : List Int) (nb tb to_ : Nat) (nv : Value) (w : World) (hn : w.heap[nb]? = some (.cells #[nv] 27 (0, 0))) (hN : Sl w 1 iEnc nv N) (hp : p < N.length) (ht : w.cell? ⟨tb, to_ + 7, none⟩ = some (.int .i64 (p : Int))) (hz : w.frozen? ⟨tb, to_ + 7, none⟩ = false) :
    Calls Try.prog 15 #[.pointer (some ⟨tb, to_, none⟩), .pointer (some ⟨nb, 0, none⟩)] w fun e w' => e = .returned (.tuple #[]) ∧ w' = w.drew.setCell ⟨tb, to_ + 7, none⟩ (.int .i64 (N.getD p default)) := by
  have c0 : w.cell? ⟨nb, 0, none⟩ = some nv := by rw [cell_of_row w nb 0 _ _ _ hn]; rfl
  obtain ⟨an, cn, rfl, mn, HN⟩ := sl_open hN
  obtain ⟨rb, ro, rfl, hrb, hc⟩ := HN.out (by omega)
  have n0 := hc p hp 0 (by omega)
  simp only [iEnc, Nat.mul_one, Nat.add_zero] at n0
  clear hN HN hc hn
  generalize N.getD p default = y at *
  have hpi : (p : Int) < (N.length : Int) := by omega
  have hp0 : (0 : Int) ≤ (p : Int) := by omega
  go_enter Try.func15, Try.ntmps15
  go_wp2_with fail
  go_region
  all_goals
    go_wp2
    go_end0
    exact ⟨rfl, rfl⟩
end Go.Proofs.Ytioacgjggogflab

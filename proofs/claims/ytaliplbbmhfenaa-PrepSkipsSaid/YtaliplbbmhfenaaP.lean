/-
  define, of a name without parameters: walk.
-/
import Derived.Test.YtaliplbbmhfenaaO
import Derived.Test.YtaliplbbmhfenaaK
import Derived.IntWalk
namespace Go.Proofs.Ytaliplbbmhfenaa
open Go.MapKept Go.ChangeShapes Go.WideShapes Go.ChangeAt Go.RowKit Go.Deep Go.Joins Go.Instr
/-- What define comes to. -/
def DefP (w : World) (kb clock : Nat) (zz : ByteArray) (B : List TkD) (e : Ending) (w' : World) : Prop :=
  e = .returned (.tuple #[]) ∧ ∃ ba bc, Sl w' 5 TkD.enc (.slice ba B.length bc) B ∧ w'.heap[kb]? = some (.map #[{ key := .string zz, val := (MacD.mk false none 0 0 ba B.length bc).val, born := clock }] (clock + 1)) ∧ OutsP (fun k => k = kb) w w'
theorem Sl.outs_map {w w' : World} {kb clock : Nat} {es : Array MapEntry} {v : Value} {l : List TkD} (h : Sl w 5 TkD.enc v l) (hm : w.heap[kb]? = some (.map es clock)) (ho : OutsP (fun k => k = kb) w w') : Sl w' 5 TkD.enc v l := by
  obtain ⟨a, cap, rfl, h2, h3, h4⟩ := h
  refine ⟨a, cap, rfl, h2, h3, fun hp => ?_⟩
  obtain ⟨b, off, rfl, hb, hc⟩ := h4 hp
  have hne : b ≠ kb := by
    rintro rfl
    have := hc 0 hp 0 (by omega)
    simp [World.cell?, hm] at this
  exact ⟨b, off, rfl, Nat.lt_of_lt_of_le hb ho.size, fun i hi j hj => (World.cell?_of_block (a := ⟨b, off + i * 5 + j, none⟩) (ho.block b hb hne)).trans (hc i hi j hj)⟩
theorem Sl.tail {w : World} {b off n c : Nat} {x : TkD} {B : List TkD} (h : Sl w 5 TkD.enc (.slice (some ⟨b, off, none⟩) n c) (x :: B)) (_ : c ≠ 1) : Sl w 5 TkD.enc (.slice (some ⟨b, off + 5, none⟩) (n - 1) (c - 1)) B := by
  obtain ⟨a, cap, e, h2, h3, h4⟩ := h
  injection e with e1 e2 e3
  subst e1; subst e2; subst e3
  simp only [List.length_cons] at h2 h4 ⊢
  refine ⟨some ⟨b, off + 5, none⟩, c - 1, by simp, by omega, by omega, fun hp => ?_⟩
  obtain ⟨b', off', e, hb, hc'⟩ := h4 (by omega)
  injection e with e
  injection e with e1 e2 _
  subst e1; subst e2
  refine ⟨b, off + 5, rfl, hb, fun i hi j hj => ?_⟩
  have := hc' (i + 1) (by omega) j hj
  rw [show off + 5 + i * 5 + j = off + (i + 1) * 5 + j by omega, this]
  rfl
theorem sl_empty {w : World} (a : Option Addr) (c : Nat) (hc : c ≤ maxLen) : Sl w 5 TkD.enc (.slice a 0 c) ([] : List TkD) := ⟨a, c, rfl, Nat.zero_le _, hc, fun h => absurd h (by simp)⟩
theorem Sl.tail1 {w : World} {b off n : Nat} {x : TkD} {B : List TkD} (h : Sl w 5 TkD.enc (.slice (some ⟨b, off, none⟩) n 1) (x :: B)) : B = [] ∧ n = 1 := by
  obtain ⟨a, cap, e, h2, h3, h4⟩ := h
  injection e with e1 e2 e3
  subst e3
  simp at h2
  subst h2
  simpa using e2
set_option maxHeartbeats 8000000 in
theorem define_first (x : TkD) (B : List TkD) (zz : ByteArray) (b off n c : Nat) (at_ : Int) (wb kb clock : Nat) (o : Value) (us : Int) (w : World)
    (hs : Sl w 5 TkD.enc (.slice (some ⟨b, off, none⟩) n c) (x :: B)) (hx : x.kind = 1) (hz : x.text = zz) (hnd : ¬ zz = ⟨#[100, 101, 102, 105, 110, 101, 100]⟩) (hno : ∀ t ∈ B, isF 4 t ⟨#[40]⟩ = false) (hlen : n ≤ 10000)
    (hw : Wk w wb false kb (.slice none 0 0) us o) (hm : w.heap[kb]? = some (.map #[] clock)) :
    Calls Try.prog 31 #[.pointer (some ⟨wb, 0, none⟩), .slice (some ⟨b, off, none⟩) n c, .int .i64 at_] w (DefP w kb clock zz B) := by
  have HS := Lib.hid hs
  obtain ⟨_, _, e, _, hA⟩ := sl_open hs
  injection e with e1 e2 e3
  subst e1; subst e3
  obtain ⟨_, _, e, hb, hc⟩ := hA.out (by simp)
  injection e with e; injection e with e1 e4; subst e1; subst e4
  have hn : n = B.length + 1 := by simpa using e2
  have hnc : n ≤ c := by obtain ⟨_, _, e, h, _⟩ := hs; injection e with e5 e6 e7; subst e7; rw [e6]; exact h
  have hcm : c ≤ 9223372036854775807 := by obtain ⟨_, _, e, _, h, _⟩ := hs; injection e with e5 e6 e7; subst e7; unfold maxLen at h; omega
  have cc := tk_cells (w := w) (b := b) (off := off) fun j hj => by
    have := hc 0 (by simp) j hj
    simpa using this
  have C1 : Hid (∀ y r, B = y :: r → w.cell? ⟨b, off + 5, none⟩ = some (.int .i64 y.kind) ∧ w.cell? ⟨b, off + 5 + 1, none⟩ = some (.int .i64 y.at') ∧ w.cell? ⟨b, off + 5 + 2, none⟩ = some (.int .i64 y.line) ∧ w.cell? ⟨b, off + 5 + 3, none⟩ = some (.string y.text) ∧ w.cell? ⟨b, off + 5 + 4, none⟩ = some (.int .i64 y.n)) := by
    rintro y r rfl
    exact tk_cells (w := w) (b := b) (off := off + 5) fun j hj => by
      have := hc 1 (by simp) j hj
      simpa using this
  clear hc hA hs e2
  obtain ⟨x0, x1, x2, x3, x4⟩ := x
  simp only at hx hz cc
  subst hx; subst hz
  obtain ⟨c0, c1, c2, c3, c4⟩ := cc
  have hq := (tl_lit x3 [100, 101, 102, 105, 110, 101, 100]).trans (decide_eq_false hnd)
  have hwb : wb < w.heap.size := hw.lt
  have hkb : kb < w.heap.size := (Array.getElem?_eq_some_iff.1 hm).1
  have HW := Lib.hid hw; have HM := Lib.hid hm; have HN := Lib.hid hno; have HL := Lib.hid hn
  clear hw hm hno hnd
  have hn1 : 1 ≤ n := by omega
  clear hn

  by_cases hcap : c = 1
  · have hn0 : n = 1 := by omega
    obtain rfl : B = [] := by
      have := HL.out
      cases B with
      | nil => rfl
      | cons y r => simp at this; omega
    subst hcap; subst hn0
    clear HL hnc
    go_enter Try.func31, Try.ntmps31
    go_wp2_with fail
    generalize hW1 : World.alloc w _ = W1
    have HG : Hid (Below w.heap.size w W1) := by rw [← hW1]; exact (Below.refl _ _).alloc (Nat.le_refl _) _
    have hs1 : w.heap.size < W1.heap.size := by rw [← hW1]; simp [go_sem]
    have m0 : W1.cell? ⟨w.heap.size, 0, none⟩ = some (.bool false) := by rw [← hW1]; simp [go_sem]
    have m1 : W1.cell? ⟨w.heap.size, 1, none⟩ = some (.slice none 0 0) := by rw [← hW1]; simp [go_sem]
    have m2 : W1.cell? ⟨w.heap.size, 2, none⟩ = some (.slice (some ⟨b, off, none⟩) 0 0) := by rw [← hW1]; simp [go_sem]
    clear hW1
    have hbW : b < W1.heap.size := by omega
    refine wp_region_quiet_cls (S := Sb W1) (by kernel_rfl) (by kernel_rfl) (Below.refl _ _).drew ?_
    repeat (go_big_quiet_step (fail))
    refine wpQuiet_nil ?_
    intro w2 hw2
    have HB2 : Hid (Below W1.heap.size W1 w2) := Wd.out hw2
    clear hw2
    have HBw : Hid (Below w.heap.size w w2) := HG.out.trans (HB2.out.mono (by omega))
    have hsz2 := HB2.out.size
    have q0 := (HB2.out.cell (p := ⟨w.heap.size, 0, none⟩) hs1).trans m0
    have q1 := (HB2.out.cell (p := ⟨w.heap.size, 1, none⟩) hs1).trans m1
    have q2 := (HB2.out.cell (p := ⟨w.heap.size, 2, none⟩) hs1).trans m2
    have e3 := (HBw.out.cell (p := ⟨b, off + 3, none⟩) hb).trans c3
    clear m0 m1 m2
    have hb2 : b < w2.heap.size := by omega
    have hws2 : w.heap.size < w2.heap.size := by omega
    go_wp2_with fail
    go_region_law (first | (go_simp; go_at_call 35; refine (put_first x3 false none (some ⟨b, off, none⟩) 0 0 (0) (0) at_ wb kb clock false (.slice none 0 0) o us w2.drew (HW.out.keep (HBw.out.block wb hwb)) ((HBw.out.block kb hkb).trans HM.out)).mono ?_; rintro e w3 ⟨rfl, hh3, hout3⟩))
    all_goals
      have HH3 := Lib.hid hh3; have HU3 := Lib.hid hout3
      clear hh3 hout3
      go_end0
      have HUw : Hid (OutsP (fun k => k = kb) w w3) := ((OutsP.of_below HBw.out).drew).trans HU3.out (fun x hx => .inl hx)
      refine ⟨rfl, some ⟨b, off, none⟩, 0, ?_, HH3.out, HUw.out⟩
      exact sl_empty _ _ (by decide)
  · have HSt := Lib.hid (HS.out.tail hcap)
    cases B with
    | nil =>
      obtain rfl : n = 1 := HL.out
      clear HL hnc
      go_enter Try.func31, Try.ntmps31
      go_wp2_with fail
      generalize hW1 : World.alloc w _ = W1
      have HG : Hid (Below w.heap.size w W1) := by rw [← hW1]; exact (Below.refl _ _).alloc (Nat.le_refl _) _
      have hs1 : w.heap.size < W1.heap.size := by rw [← hW1]; simp [go_sem]
      have m0 : W1.cell? ⟨w.heap.size, 0, none⟩ = some (.bool false) := by rw [← hW1]; simp [go_sem]
      have m1 : W1.cell? ⟨w.heap.size, 1, none⟩ = some (.slice none 0 0) := by rw [← hW1]; simp [go_sem]
      have m2 : W1.cell? ⟨w.heap.size, 2, none⟩ = some (.slice (some ⟨b, off + 5, none⟩) 0 (c - 1)) := by rw [← hW1]; simp [go_sem]
      clear hW1
      have hbW : b < W1.heap.size := by omega
      refine wp_region_quiet_cls (S := Sb W1) (by kernel_rfl) (by kernel_rfl) (Below.refl _ _).drew ?_
      repeat (go_big_quiet_step (fail))
      refine wpQuiet_nil ?_
      intro w2 hw2
      have HB2 : Hid (Below W1.heap.size W1 w2) := Wd.out hw2
      clear hw2
      have HBw : Hid (Below w.heap.size w w2) := HG.out.trans (HB2.out.mono (by omega))
      have hsz2 := HB2.out.size
      have q0 := (HB2.out.cell (p := ⟨w.heap.size, 0, none⟩) hs1).trans m0
      have q1 := (HB2.out.cell (p := ⟨w.heap.size, 1, none⟩) hs1).trans m1
      have q2 := (HB2.out.cell (p := ⟨w.heap.size, 2, none⟩) hs1).trans m2
      have e3 := (HBw.out.cell (p := ⟨b, off + 3, none⟩) hb).trans c3
      clear m0 m1 m2
      have hb2 : b < w2.heap.size := by omega
      have hws2 : w.heap.size < w2.heap.size := by omega
      go_wp2_with fail
      go_region_law (first | (go_simp; go_at_call 35; refine (put_first x3 false none (some ⟨b, off + 5, none⟩) 0 0 (0) ((c - 1)) at_ wb kb clock false (.slice none 0 0) o us w2.drew (HW.out.keep (HBw.out.block wb hwb)) ((HBw.out.block kb hkb).trans HM.out)).mono ?_; rintro e w3 ⟨rfl, hh3, hout3⟩))
      all_goals
        have HH3 := Lib.hid hh3; have HU3 := Lib.hid hout3
        clear hh3 hout3
        go_end0
        have HUw : Hid (OutsP (fun k => k = kb) w w3) := ((OutsP.of_below HBw.out).drew).trans HU3.out (fun x hx => .inl hx)
        refine ⟨rfl, some ⟨b, off + 5, none⟩, (c - 1), ?_, HH3.out, HUw.out⟩
        exact sl_empty _ _ (by unfold maxLen; omega)
    | cons y r =>
      obtain ⟨d0, d1, d2, d3, d4⟩ := C1.out y r rfl
      have HX := Lib.hid (HN.out y (by simp))
      have hn2 : 2 ≤ n := by have := HL.out; simp at this; omega
      have hni : (1 : Int) < (n : Int) := by omega
      have hL : Hid (n - 1 = (y :: r).length) := by have := HL.out; unfold Hid; omega
      obtain ⟨y0, y1, y2, y3, y4⟩ := y
      simp only at d0 d1 d2 d3 d4
      go_enter Try.func31, Try.ntmps31
      go_wp2_with fail
      generalize hW1 : World.alloc w _ = W1
      have HG : Hid (Below w.heap.size w W1) := by rw [← hW1]; exact (Below.refl _ _).alloc (Nat.le_refl _) _
      have hs1 : w.heap.size < W1.heap.size := by rw [← hW1]; simp [go_sem]
      have m0 : W1.cell? ⟨w.heap.size, 0, none⟩ = some (.bool false) := by rw [← hW1]; simp [go_sem]
      have m1 : W1.cell? ⟨w.heap.size, 1, none⟩ = some (.slice none 0 0) := by rw [← hW1]; simp [go_sem]
      have m2 : W1.cell? ⟨w.heap.size, 2, none⟩ = some (.slice (some ⟨b, off + 5, none⟩) (n - 1) (c - 1)) := by rw [← hW1]; simp [go_sem]
      clear hW1
      have hbW : b < W1.heap.size := by omega
      have l0 : ∀ n : Wd (Sb W1), n.w.cell? ⟨b, off + 5, none⟩ = _ := fun n => n.cell hbW ((HG.out.cell (p := ⟨b, off + 5, none⟩) hb).trans d0)
      have l1 : ∀ n : Wd (Sb W1), n.w.cell? ⟨b, off + 5 + 1, none⟩ = _ := fun n => n.cell hbW ((HG.out.cell (p := ⟨b, off + 5 + 1, none⟩) hb).trans d1)
      have l2 : ∀ n : Wd (Sb W1), n.w.cell? ⟨b, off + 5 + 2, none⟩ = _ := fun n => n.cell hbW ((HG.out.cell (p := ⟨b, off + 5 + 2, none⟩) hb).trans d2)
      have l3 : ∀ n : Wd (Sb W1), n.w.cell? ⟨b, off + 5 + 3, none⟩ = _ := fun n => n.cell hbW ((HG.out.cell (p := ⟨b, off + 5 + 3, none⟩) hb).trans d3)
      have l4 : ∀ n : Wd (Sb W1), n.w.cell? ⟨b, off + 5 + 4, none⟩ = _ := fun n => n.cell hbW ((HG.out.cell (p := ⟨b, off + 5 + 4, none⟩) hb).trans d4)
      refine wp_region_quiet_cls (S := Sb W1) (by kernel_rfl) (by kernel_rfl) (Below.refl _ _).drew ?_
      repeat (go_big_quiet_step (first | (go_at_call 14; exact Wd.call _ (mark_is ⟨y0, y1, y2, y3, y4⟩ _ _ _ HX))))
      refine wpQuiet_nil ?_
      intro w2 hw2
      have HB2 : Hid (Below W1.heap.size W1 w2) := Wd.out hw2
      clear l0 l1 l2 l3 l4
      clear hw2
      have HBw : Hid (Below w.heap.size w w2) := HG.out.trans (HB2.out.mono (by omega))
      have hsz2 := HB2.out.size
      have q0 := (HB2.out.cell (p := ⟨w.heap.size, 0, none⟩) hs1).trans m0
      have q1 := (HB2.out.cell (p := ⟨w.heap.size, 1, none⟩) hs1).trans m1
      have q2 := (HB2.out.cell (p := ⟨w.heap.size, 2, none⟩) hs1).trans m2
      have e3 := (HBw.out.cell (p := ⟨b, off + 3, none⟩) hb).trans c3
      clear m0 m1 m2
      have hb2 : b < w2.heap.size := by omega
      have hws2 : w.heap.size < w2.heap.size := by omega
      go_wp2_with fail
      go_region_law (first | (go_simp; go_at_call 35; refine (put_first x3 false none (some ⟨b, off + 5, none⟩) 0 0 ((n - 1)) ((c - 1)) at_ wb kb clock false (.slice none 0 0) o us w2.drew (HW.out.keep (HBw.out.block wb hwb)) ((HBw.out.block kb hkb).trans HM.out)).mono ?_; rintro e w3 ⟨rfl, hh3, hout3⟩))
      all_goals
        have HH3 := Lib.hid hh3; have HU3 := Lib.hid hout3
        clear hh3 hout3
        go_end0
        have HUw : Hid (OutsP (fun k => k = kb) w w3) := ((OutsP.of_below HBw.out).drew).trans HU3.out (fun x hx => .inl hx)
        refine ⟨rfl, some ⟨b, off + 5, none⟩, (c - 1), ?_, (by have := HH3.out; rw [hL.out] at this; exact this), HUw.out⟩
        have := HSt.out.outs_map HM.out HUw.out; rw [hL.out] at this; exact this
end Go.Proofs.Ytaliplbbmhfenaa

/-
  The closure of Inlines, where there is no definition.
-/
import Derived.Test.YtaliplbbmhfenaaG
namespace Go.Proofs.Ytaliplbbmhfenaa
open Go.MapKept Go.ChangeShapes Go.WideShapes Go.ChangeAt Go.RowKit Go.Deep Go.Joins Go.Instr
set_option maxHeartbeats 8000000 in
theorem inl1_plain (l lo : List TkD) (v : Value) (tk : TkD) (base wb kb : Nat) (us : Int) (o : Value) (es : Array MapEntry) (clock : Nat) (f : ByteArray → Option MacD) (w : World) (hs : Sl w 5 TkD.enc v l)
    (hw : Wk w wb true kb (.slice none 0 0) us o) (hown : w.ownsRow base 25 5 o lo.length (fl lo)) (hbase : base ≤ w.heap.size) (hm : w.heap[kb]? = some (.map es clock))
    (hf : Kno es f) (hpl : ∀ t ∈ l, t.kind = 1 → f t.text = none) (hlen : lo.length + l.length ≤ 8192) (hno : ∀ t ∈ l, isF 1 t ⟨#[105, 110, 108, 105, 110, 101]⟩ = false) :
    Calls Try.prog 20 #[.pointer (some ⟨wb, 0, none⟩), v, tk.val] w (TellPost w base wb true kb (.slice none 0 0) us o lo l) := by
  obtain ⟨aa, ca, rfl, ma, HA⟩ := sl_open hs
  have hwb := hw.lt
  have hkb : kb < w.heap.size := (Array.getElem?_eq_some_iff.1 hm).1
  have HS := Lib.hid hs; have HW := Lib.hid hw; have HO := Lib.hid hown; have HM := Lib.hid hm; have HF := Lib.hid hf; have HL := Lib.hid hpl; have HNO := Lib.hid hno
  clear hs hw hown hm hf hpl hno
  unfold TkD.val
  go_enter Try.func20, Try.ntmps20
  go_wp2_with fail
  go_loopw [6, 7, 8] (fun r dp i wr => ∃ (k : Nat) (d : Int), k ≤ l.length ∧ i = .int .i64 k ∧ dp = .int .i64 d ∧ -(k : Int) ≤ d ∧ d ≤ k ∧ Hid (wr.ownsRow w.heap.size 25 5 r k (fl (l.take k))) ∧ Below w.heap.size w wr) (fun _ _ i _ => l.length - (intOf i).toNat)
  case atStart => exact ⟨0, 0, Nat.zero_le _, rfl, rfl, by omega, by omega, World.ownsRow_nil _ _ _ _, by go_grown⟩
  case round =>
    obtain ⟨k, d, hk, rfl, rfl, hd1, hd2, hown, hB⟩ := hrel
    by_cases hlt : k < l.length
    · obtain ⟨b, off, rfl, hb, hc⟩ := HA.out (by omega)
      have cc := tk_cells (w := wr) (b := b) (off := off + k * 5) fun j hj => (hB.cell (p := ⟨b, off + k * 5 + j, none⟩) hb).trans (hc k hlt j hj)
      have HX := Lib.hid (HNO.out (l.getD k default) (by simp [List.getD_eq_getElem?_getD, hlt]))
      have HT := Lib.hid (take_snoc l k hlt)
      clear hc
      generalize l.getD k default = x at *
      obtain ⟨x0, x1, x2, x3, x4⟩ := x
      obtain ⟨c0, c1, c2, c3, c4⟩ := cc
      simp only at c0 c1 c2 c3 c4
      have hsz := hB.size
      have HB := Lib.hid hB
      clear hB
      obtain ⟨r1, HR1⟩ : ∃ r, Hid (isF 4 ⟨x0, x1, x2, x3, x4⟩ ⟨#[123]⟩ = r) := ⟨_, rfl⟩
      obtain ⟨r2, HR2⟩ : ∃ r, Hid (isF 4 ⟨x0, x1, x2, x3, x4⟩ ⟨#[125]⟩ = r) := ⟨_, rfl⟩
      by_cases hd : d ≤ 0 <;> cases r1 <;> cases r2
      · -- deep True, r1 False, r2 False
        go_wp2_with fail
        generalize hW2 : World.alloc wr _ = W2
        have HG : Hid (Below wr.heap.size wr W2) := by rw [← hW2]; exact (Below.refl _ _).alloc (Nat.le_refl _) _
        have hs2 : wr.heap.size < W2.heap.size := by rw [← hW2]; simp [go_sem]
        have t0 : W2.cell? ⟨wr.heap.size, 0, none⟩ = some (.int .i64 x0) := by rw [← hW2]; simp [go_sem]
        have t1 : W2.cell? ⟨wr.heap.size, 1, none⟩ = some (.int .i64 x1) := by rw [← hW2]; simp [go_sem]
        have t2 : W2.cell? ⟨wr.heap.size, 2, none⟩ = some (.int .i64 x2) := by rw [← hW2]; simp [go_sem]
        have t3 : W2.cell? ⟨wr.heap.size, 3, none⟩ = some (.string x3) := by rw [← hW2]; simp [go_sem]
        have t4 : W2.cell? ⟨wr.heap.size, 4, none⟩ = some (.int .i64 x4) := by rw [← hW2]; simp [go_sem]
        have HO2 : Hid (W2.ownsRow w.heap.size 25 5 u6 k (fl (l.take k))) := by rw [← hW2]; exact hown.out.alloc _
        clear hW2 c0 c1 c2 c3 c4 hown
        refine (word_is ⟨x0, x1, x2, x3, x4⟩ _ _ _ HX).mono ?_
        rintro e w3 ⟨rfl, hw3⟩
        have HB3 : Hid (Below W2.heap.size W2 w3) := hw3
        have p0 := (HB3.out.cell (p := ⟨wr.heap.size, 0, none⟩) hs2).trans t0
        have p1 := (HB3.out.cell (p := ⟨wr.heap.size, 1, none⟩) hs2).trans t1
        have p2 := (HB3.out.cell (p := ⟨wr.heap.size, 2, none⟩) hs2).trans t2
        have p3 := (HB3.out.cell (p := ⟨wr.heap.size, 3, none⟩) hs2).trans t3
        have p4 := (HB3.out.cell (p := ⟨wr.heap.size, 4, none⟩) hs2).trans t4
        clear hw3
        go_wp2_with fail
        refine (mark_is ⟨x0, x1, x2, x3, x4⟩ _ _ _ HR1).mono ?_
        rintro e w4 ⟨rfl, hw4⟩
        have HB4 : Hid (Below W2.heap.size W2 w4) := HB3.out.trans (hw4.mono HB3.out.size)
        have q0 := (HB4.out.cell (p := ⟨wr.heap.size, 0, none⟩) hs2).trans t0
        have q1 := (HB4.out.cell (p := ⟨wr.heap.size, 1, none⟩) hs2).trans t1
        have q2 := (HB4.out.cell (p := ⟨wr.heap.size, 2, none⟩) hs2).trans t2
        have q3 := (HB4.out.cell (p := ⟨wr.heap.size, 3, none⟩) hs2).trans t3
        have q4 := (HB4.out.cell (p := ⟨wr.heap.size, 4, none⟩) hs2).trans t4
        clear p0 p1 p2 p3 p4
        clear hw4
        go_wp2_with fail
        refine (mark_is ⟨x0, x1, x2, x3, x4⟩ _ _ _ HR2).mono ?_
        rintro e w5 ⟨rfl, hw5⟩
        have HB5 : Hid (Below W2.heap.size W2 w5) := HB4.out.trans (hw5.mono HB4.out.size)
        have s0 := (HB5.out.cell (p := ⟨wr.heap.size, 0, none⟩) hs2).trans t0
        have s1 := (HB5.out.cell (p := ⟨wr.heap.size, 1, none⟩) hs2).trans t1
        have s2 := (HB5.out.cell (p := ⟨wr.heap.size, 2, none⟩) hs2).trans t2
        have s3 := (HB5.out.cell (p := ⟨wr.heap.size, 3, none⟩) hs2).trans t3
        have s4 := (HB5.out.cell (p := ⟨wr.heap.size, 4, none⟩) hs2).trans t4
        clear q0 q1 q2 q3 q4
        clear hw5
        have HO4 := Lib.hid (own_below HO2.out HB5.out)
        have HBw : Hid (Below w.heap.size w w5) := (HB.out.trans (HG.out.mono hsz)).trans (HB5.out.mono (by omega))
        have hszc := HB5.out.size
        clear t0 t1 t2 t3 t4
        go_wp2_with (at_builtin; go_must (refine wpList_push rfl _ _ rfl w.heap.size _ k (l.take k) rfl (HO4.out.alloc _) w5.heap.size x0 x1 x2 x3 x4 rfl (heap_new' _ _) (by omega) (by simp; omega) ?c4))
        case c4 =>
          intro g cap w9 h1 h2 h3
          have HO5 : Hid (w9.ownsRow w.heap.size 25 5 (.slice (some ⟨g, 0, none⟩) (k + 1) cap) (k + 1) (fl (l.take (k + 1)))) := by rw [HT.out]; exact h1
          have HB5 : Hid (Below w.heap.size w w9) := (HBw.out.alloc (by omega) _).grown h2 (by simp; omega) (fun g hg => (HO4.out.lt g hg).1)
          clear h1 h2 h3
          go_wp2
          go_roundw
          case rel => exact ⟨k + 1, d, by omega, by go_num, rfl, by omega, by omega, HO5, HB5.out⟩
          case measure => simp [intOf]; omega
      · -- deep True, r1 False, r2 True
        go_wp2_with fail
        generalize hW2 : World.alloc wr _ = W2
        have HG : Hid (Below wr.heap.size wr W2) := by rw [← hW2]; exact (Below.refl _ _).alloc (Nat.le_refl _) _
        have hs2 : wr.heap.size < W2.heap.size := by rw [← hW2]; simp [go_sem]
        have t0 : W2.cell? ⟨wr.heap.size, 0, none⟩ = some (.int .i64 x0) := by rw [← hW2]; simp [go_sem]
        have t1 : W2.cell? ⟨wr.heap.size, 1, none⟩ = some (.int .i64 x1) := by rw [← hW2]; simp [go_sem]
        have t2 : W2.cell? ⟨wr.heap.size, 2, none⟩ = some (.int .i64 x2) := by rw [← hW2]; simp [go_sem]
        have t3 : W2.cell? ⟨wr.heap.size, 3, none⟩ = some (.string x3) := by rw [← hW2]; simp [go_sem]
        have t4 : W2.cell? ⟨wr.heap.size, 4, none⟩ = some (.int .i64 x4) := by rw [← hW2]; simp [go_sem]
        have HO2 : Hid (W2.ownsRow w.heap.size 25 5 u6 k (fl (l.take k))) := by rw [← hW2]; exact hown.out.alloc _
        clear hW2 c0 c1 c2 c3 c4 hown
        refine (word_is ⟨x0, x1, x2, x3, x4⟩ _ _ _ HX).mono ?_
        rintro e w3 ⟨rfl, hw3⟩
        have HB3 : Hid (Below W2.heap.size W2 w3) := hw3
        have p0 := (HB3.out.cell (p := ⟨wr.heap.size, 0, none⟩) hs2).trans t0
        have p1 := (HB3.out.cell (p := ⟨wr.heap.size, 1, none⟩) hs2).trans t1
        have p2 := (HB3.out.cell (p := ⟨wr.heap.size, 2, none⟩) hs2).trans t2
        have p3 := (HB3.out.cell (p := ⟨wr.heap.size, 3, none⟩) hs2).trans t3
        have p4 := (HB3.out.cell (p := ⟨wr.heap.size, 4, none⟩) hs2).trans t4
        clear hw3
        go_wp2_with fail
        refine (mark_is ⟨x0, x1, x2, x3, x4⟩ _ _ _ HR1).mono ?_
        rintro e w4 ⟨rfl, hw4⟩
        have HB4 : Hid (Below W2.heap.size W2 w4) := HB3.out.trans (hw4.mono HB3.out.size)
        have q0 := (HB4.out.cell (p := ⟨wr.heap.size, 0, none⟩) hs2).trans t0
        have q1 := (HB4.out.cell (p := ⟨wr.heap.size, 1, none⟩) hs2).trans t1
        have q2 := (HB4.out.cell (p := ⟨wr.heap.size, 2, none⟩) hs2).trans t2
        have q3 := (HB4.out.cell (p := ⟨wr.heap.size, 3, none⟩) hs2).trans t3
        have q4 := (HB4.out.cell (p := ⟨wr.heap.size, 4, none⟩) hs2).trans t4
        clear p0 p1 p2 p3 p4
        clear hw4
        go_wp2_with fail
        refine (mark_is ⟨x0, x1, x2, x3, x4⟩ _ _ _ HR2).mono ?_
        rintro e w5 ⟨rfl, hw5⟩
        have HB5 : Hid (Below W2.heap.size W2 w5) := HB4.out.trans (hw5.mono HB4.out.size)
        have s0 := (HB5.out.cell (p := ⟨wr.heap.size, 0, none⟩) hs2).trans t0
        have s1 := (HB5.out.cell (p := ⟨wr.heap.size, 1, none⟩) hs2).trans t1
        have s2 := (HB5.out.cell (p := ⟨wr.heap.size, 2, none⟩) hs2).trans t2
        have s3 := (HB5.out.cell (p := ⟨wr.heap.size, 3, none⟩) hs2).trans t3
        have s4 := (HB5.out.cell (p := ⟨wr.heap.size, 4, none⟩) hs2).trans t4
        clear q0 q1 q2 q3 q4
        clear hw5
        have HO4 := Lib.hid (own_below HO2.out HB5.out)
        have HBw : Hid (Below w.heap.size w w5) := (HB.out.trans (HG.out.mono hsz)).trans (HB5.out.mono (by omega))
        have hszc := HB5.out.size
        clear t0 t1 t2 t3 t4
        go_wp2_with (at_builtin; go_must (refine wpList_push rfl _ _ rfl w.heap.size _ k (l.take k) rfl (HO4.out.alloc _) w5.heap.size x0 x1 x2 x3 x4 rfl (heap_new' _ _) (by omega) (by simp; omega) ?c4))
        case c4 =>
          intro g cap w9 h1 h2 h3
          have HO5 : Hid (w9.ownsRow w.heap.size 25 5 (.slice (some ⟨g, 0, none⟩) (k + 1) cap) (k + 1) (fl (l.take (k + 1)))) := by rw [HT.out]; exact h1
          have HB5 : Hid (Below w.heap.size w w9) := (HBw.out.alloc (by omega) _).grown h2 (by simp; omega) (fun g hg => (HO4.out.lt g hg).1)
          clear h1 h2 h3
          go_wp2
          go_roundw
          case rel => exact ⟨k + 1, (d - 1), by omega, by go_num, rfl, by omega, by omega, HO5, HB5.out⟩
          case measure => simp [intOf]; omega
      · -- deep True, r1 True, r2 False
        go_wp2_with fail
        generalize hW2 : World.alloc wr _ = W2
        have HG : Hid (Below wr.heap.size wr W2) := by rw [← hW2]; exact (Below.refl _ _).alloc (Nat.le_refl _) _
        have hs2 : wr.heap.size < W2.heap.size := by rw [← hW2]; simp [go_sem]
        have t0 : W2.cell? ⟨wr.heap.size, 0, none⟩ = some (.int .i64 x0) := by rw [← hW2]; simp [go_sem]
        have t1 : W2.cell? ⟨wr.heap.size, 1, none⟩ = some (.int .i64 x1) := by rw [← hW2]; simp [go_sem]
        have t2 : W2.cell? ⟨wr.heap.size, 2, none⟩ = some (.int .i64 x2) := by rw [← hW2]; simp [go_sem]
        have t3 : W2.cell? ⟨wr.heap.size, 3, none⟩ = some (.string x3) := by rw [← hW2]; simp [go_sem]
        have t4 : W2.cell? ⟨wr.heap.size, 4, none⟩ = some (.int .i64 x4) := by rw [← hW2]; simp [go_sem]
        have HO2 : Hid (W2.ownsRow w.heap.size 25 5 u6 k (fl (l.take k))) := by rw [← hW2]; exact hown.out.alloc _
        clear hW2 c0 c1 c2 c3 c4 hown
        refine (word_is ⟨x0, x1, x2, x3, x4⟩ _ _ _ HX).mono ?_
        rintro e w3 ⟨rfl, hw3⟩
        have HB3 : Hid (Below W2.heap.size W2 w3) := hw3
        have p0 := (HB3.out.cell (p := ⟨wr.heap.size, 0, none⟩) hs2).trans t0
        have p1 := (HB3.out.cell (p := ⟨wr.heap.size, 1, none⟩) hs2).trans t1
        have p2 := (HB3.out.cell (p := ⟨wr.heap.size, 2, none⟩) hs2).trans t2
        have p3 := (HB3.out.cell (p := ⟨wr.heap.size, 3, none⟩) hs2).trans t3
        have p4 := (HB3.out.cell (p := ⟨wr.heap.size, 4, none⟩) hs2).trans t4
        clear hw3
        go_wp2_with fail
        refine (mark_is ⟨x0, x1, x2, x3, x4⟩ _ _ _ HR1).mono ?_
        rintro e w4 ⟨rfl, hw4⟩
        have HB4 : Hid (Below W2.heap.size W2 w4) := HB3.out.trans (hw4.mono HB3.out.size)
        have q0 := (HB4.out.cell (p := ⟨wr.heap.size, 0, none⟩) hs2).trans t0
        have q1 := (HB4.out.cell (p := ⟨wr.heap.size, 1, none⟩) hs2).trans t1
        have q2 := (HB4.out.cell (p := ⟨wr.heap.size, 2, none⟩) hs2).trans t2
        have q3 := (HB4.out.cell (p := ⟨wr.heap.size, 3, none⟩) hs2).trans t3
        have q4 := (HB4.out.cell (p := ⟨wr.heap.size, 4, none⟩) hs2).trans t4
        clear p0 p1 p2 p3 p4
        clear hw4
        go_wp2_with fail
        refine (mark_is ⟨x0, x1, x2, x3, x4⟩ _ _ _ HR2).mono ?_
        rintro e w5 ⟨rfl, hw5⟩
        have HB5 : Hid (Below W2.heap.size W2 w5) := HB4.out.trans (hw5.mono HB4.out.size)
        have s0 := (HB5.out.cell (p := ⟨wr.heap.size, 0, none⟩) hs2).trans t0
        have s1 := (HB5.out.cell (p := ⟨wr.heap.size, 1, none⟩) hs2).trans t1
        have s2 := (HB5.out.cell (p := ⟨wr.heap.size, 2, none⟩) hs2).trans t2
        have s3 := (HB5.out.cell (p := ⟨wr.heap.size, 3, none⟩) hs2).trans t3
        have s4 := (HB5.out.cell (p := ⟨wr.heap.size, 4, none⟩) hs2).trans t4
        clear q0 q1 q2 q3 q4
        clear hw5
        have HO4 := Lib.hid (own_below HO2.out HB5.out)
        have HBw : Hid (Below w.heap.size w w5) := (HB.out.trans (HG.out.mono hsz)).trans (HB5.out.mono (by omega))
        have hszc := HB5.out.size
        clear t0 t1 t2 t3 t4
        go_wp2_with (at_builtin; go_must (refine wpList_push rfl _ _ rfl w.heap.size _ k (l.take k) rfl (HO4.out.alloc _) w5.heap.size x0 x1 x2 x3 x4 rfl (heap_new' _ _) (by omega) (by simp; omega) ?c4))
        case c4 =>
          intro g cap w9 h1 h2 h3
          have HO5 : Hid (w9.ownsRow w.heap.size 25 5 (.slice (some ⟨g, 0, none⟩) (k + 1) cap) (k + 1) (fl (l.take (k + 1)))) := by rw [HT.out]; exact h1
          have HB5 : Hid (Below w.heap.size w w9) := (HBw.out.alloc (by omega) _).grown h2 (by simp; omega) (fun g hg => (HO4.out.lt g hg).1)
          clear h1 h2 h3
          go_wp2
          go_roundw
          case rel => exact ⟨k + 1, (d + 1), by omega, by go_num, rfl, by omega, by omega, HO5, HB5.out⟩
          case measure => simp [intOf]; omega
      · -- deep True, r1 True, r2 True
        go_wp2_with fail
        generalize hW2 : World.alloc wr _ = W2
        have HG : Hid (Below wr.heap.size wr W2) := by rw [← hW2]; exact (Below.refl _ _).alloc (Nat.le_refl _) _
        have hs2 : wr.heap.size < W2.heap.size := by rw [← hW2]; simp [go_sem]
        have t0 : W2.cell? ⟨wr.heap.size, 0, none⟩ = some (.int .i64 x0) := by rw [← hW2]; simp [go_sem]
        have t1 : W2.cell? ⟨wr.heap.size, 1, none⟩ = some (.int .i64 x1) := by rw [← hW2]; simp [go_sem]
        have t2 : W2.cell? ⟨wr.heap.size, 2, none⟩ = some (.int .i64 x2) := by rw [← hW2]; simp [go_sem]
        have t3 : W2.cell? ⟨wr.heap.size, 3, none⟩ = some (.string x3) := by rw [← hW2]; simp [go_sem]
        have t4 : W2.cell? ⟨wr.heap.size, 4, none⟩ = some (.int .i64 x4) := by rw [← hW2]; simp [go_sem]
        have HO2 : Hid (W2.ownsRow w.heap.size 25 5 u6 k (fl (l.take k))) := by rw [← hW2]; exact hown.out.alloc _
        clear hW2 c0 c1 c2 c3 c4 hown
        refine (word_is ⟨x0, x1, x2, x3, x4⟩ _ _ _ HX).mono ?_
        rintro e w3 ⟨rfl, hw3⟩
        have HB3 : Hid (Below W2.heap.size W2 w3) := hw3
        have p0 := (HB3.out.cell (p := ⟨wr.heap.size, 0, none⟩) hs2).trans t0
        have p1 := (HB3.out.cell (p := ⟨wr.heap.size, 1, none⟩) hs2).trans t1
        have p2 := (HB3.out.cell (p := ⟨wr.heap.size, 2, none⟩) hs2).trans t2
        have p3 := (HB3.out.cell (p := ⟨wr.heap.size, 3, none⟩) hs2).trans t3
        have p4 := (HB3.out.cell (p := ⟨wr.heap.size, 4, none⟩) hs2).trans t4
        clear hw3
        go_wp2_with fail
        refine (mark_is ⟨x0, x1, x2, x3, x4⟩ _ _ _ HR1).mono ?_
        rintro e w4 ⟨rfl, hw4⟩
        have HB4 : Hid (Below W2.heap.size W2 w4) := HB3.out.trans (hw4.mono HB3.out.size)
        have q0 := (HB4.out.cell (p := ⟨wr.heap.size, 0, none⟩) hs2).trans t0
        have q1 := (HB4.out.cell (p := ⟨wr.heap.size, 1, none⟩) hs2).trans t1
        have q2 := (HB4.out.cell (p := ⟨wr.heap.size, 2, none⟩) hs2).trans t2
        have q3 := (HB4.out.cell (p := ⟨wr.heap.size, 3, none⟩) hs2).trans t3
        have q4 := (HB4.out.cell (p := ⟨wr.heap.size, 4, none⟩) hs2).trans t4
        clear p0 p1 p2 p3 p4
        clear hw4
        go_wp2_with fail
        refine (mark_is ⟨x0, x1, x2, x3, x4⟩ _ _ _ HR2).mono ?_
        rintro e w5 ⟨rfl, hw5⟩
        have HB5 : Hid (Below W2.heap.size W2 w5) := HB4.out.trans (hw5.mono HB4.out.size)
        have s0 := (HB5.out.cell (p := ⟨wr.heap.size, 0, none⟩) hs2).trans t0
        have s1 := (HB5.out.cell (p := ⟨wr.heap.size, 1, none⟩) hs2).trans t1
        have s2 := (HB5.out.cell (p := ⟨wr.heap.size, 2, none⟩) hs2).trans t2
        have s3 := (HB5.out.cell (p := ⟨wr.heap.size, 3, none⟩) hs2).trans t3
        have s4 := (HB5.out.cell (p := ⟨wr.heap.size, 4, none⟩) hs2).trans t4
        clear q0 q1 q2 q3 q4
        clear hw5
        have HO4 := Lib.hid (own_below HO2.out HB5.out)
        have HBw : Hid (Below w.heap.size w w5) := (HB.out.trans (HG.out.mono hsz)).trans (HB5.out.mono (by omega))
        have hszc := HB5.out.size
        clear t0 t1 t2 t3 t4
        go_wp2_with (at_builtin; go_must (refine wpList_push rfl _ _ rfl w.heap.size _ k (l.take k) rfl (HO4.out.alloc _) w5.heap.size x0 x1 x2 x3 x4 rfl (heap_new' _ _) (by omega) (by simp; omega) ?c4))
        case c4 =>
          intro g cap w9 h1 h2 h3
          have HO5 : Hid (w9.ownsRow w.heap.size 25 5 (.slice (some ⟨g, 0, none⟩) (k + 1) cap) (k + 1) (fl (l.take (k + 1)))) := by rw [HT.out]; exact h1
          have HB5 : Hid (Below w.heap.size w w9) := (HBw.out.alloc (by omega) _).grown h2 (by simp; omega) (fun g hg => (HO4.out.lt g hg).1)
          clear h1 h2 h3
          go_wp2
          go_roundw
          case rel => exact ⟨k + 1, d, by omega, by go_num, rfl, by omega, by omega, HO5, HB5.out⟩
          case measure => simp [intOf]; omega
      · -- deep False, r1 False, r2 False
        go_wp2_with fail
        generalize hW2 : World.alloc wr _ = W2
        have HG : Hid (Below wr.heap.size wr W2) := by rw [← hW2]; exact (Below.refl _ _).alloc (Nat.le_refl _) _
        have hs2 : wr.heap.size < W2.heap.size := by rw [← hW2]; simp [go_sem]
        have t0 : W2.cell? ⟨wr.heap.size, 0, none⟩ = some (.int .i64 x0) := by rw [← hW2]; simp [go_sem]
        have t1 : W2.cell? ⟨wr.heap.size, 1, none⟩ = some (.int .i64 x1) := by rw [← hW2]; simp [go_sem]
        have t2 : W2.cell? ⟨wr.heap.size, 2, none⟩ = some (.int .i64 x2) := by rw [← hW2]; simp [go_sem]
        have t3 : W2.cell? ⟨wr.heap.size, 3, none⟩ = some (.string x3) := by rw [← hW2]; simp [go_sem]
        have t4 : W2.cell? ⟨wr.heap.size, 4, none⟩ = some (.int .i64 x4) := by rw [← hW2]; simp [go_sem]
        have HO2 : Hid (W2.ownsRow w.heap.size 25 5 u6 k (fl (l.take k))) := by rw [← hW2]; exact hown.out.alloc _
        clear hW2 c0 c1 c2 c3 c4 hown
        refine (mark_is ⟨x0, x1, x2, x3, x4⟩ _ _ _ HR1).mono ?_
        rintro e w3 ⟨rfl, hw3⟩
        have HB3 : Hid (Below W2.heap.size W2 w3) := hw3
        have p0 := (HB3.out.cell (p := ⟨wr.heap.size, 0, none⟩) hs2).trans t0
        have p1 := (HB3.out.cell (p := ⟨wr.heap.size, 1, none⟩) hs2).trans t1
        have p2 := (HB3.out.cell (p := ⟨wr.heap.size, 2, none⟩) hs2).trans t2
        have p3 := (HB3.out.cell (p := ⟨wr.heap.size, 3, none⟩) hs2).trans t3
        have p4 := (HB3.out.cell (p := ⟨wr.heap.size, 4, none⟩) hs2).trans t4
        clear hw3
        go_wp2_with fail
        refine (mark_is ⟨x0, x1, x2, x3, x4⟩ _ _ _ HR2).mono ?_
        rintro e w4 ⟨rfl, hw4⟩
        have HB4 : Hid (Below W2.heap.size W2 w4) := HB3.out.trans (hw4.mono HB3.out.size)
        have q0 := (HB4.out.cell (p := ⟨wr.heap.size, 0, none⟩) hs2).trans t0
        have q1 := (HB4.out.cell (p := ⟨wr.heap.size, 1, none⟩) hs2).trans t1
        have q2 := (HB4.out.cell (p := ⟨wr.heap.size, 2, none⟩) hs2).trans t2
        have q3 := (HB4.out.cell (p := ⟨wr.heap.size, 3, none⟩) hs2).trans t3
        have q4 := (HB4.out.cell (p := ⟨wr.heap.size, 4, none⟩) hs2).trans t4
        clear p0 p1 p2 p3 p4
        clear hw4
        have HO4 := Lib.hid (own_below HO2.out HB4.out)
        have HBw : Hid (Below w.heap.size w w4) := (HB.out.trans (HG.out.mono hsz)).trans (HB4.out.mono (by omega))
        have hszc := HB4.out.size
        clear t0 t1 t2 t3 t4
        go_wp2_with (at_builtin; go_must (refine wpList_push rfl _ _ rfl w.heap.size _ k (l.take k) rfl (HO4.out.alloc _) w4.heap.size x0 x1 x2 x3 x4 rfl (heap_new' _ _) (by omega) (by simp; omega) ?c4))
        case c4 =>
          intro g cap w9 h1 h2 h3
          have HO5 : Hid (w9.ownsRow w.heap.size 25 5 (.slice (some ⟨g, 0, none⟩) (k + 1) cap) (k + 1) (fl (l.take (k + 1)))) := by rw [HT.out]; exact h1
          have HB5 : Hid (Below w.heap.size w w9) := (HBw.out.alloc (by omega) _).grown h2 (by simp; omega) (fun g hg => (HO4.out.lt g hg).1)
          clear h1 h2 h3
          go_wp2
          go_roundw
          case rel => exact ⟨k + 1, d, by omega, by go_num, rfl, by omega, by omega, HO5, HB5.out⟩
          case measure => simp [intOf]; omega
      · -- deep False, r1 False, r2 True
        go_wp2_with fail
        generalize hW2 : World.alloc wr _ = W2
        have HG : Hid (Below wr.heap.size wr W2) := by rw [← hW2]; exact (Below.refl _ _).alloc (Nat.le_refl _) _
        have hs2 : wr.heap.size < W2.heap.size := by rw [← hW2]; simp [go_sem]
        have t0 : W2.cell? ⟨wr.heap.size, 0, none⟩ = some (.int .i64 x0) := by rw [← hW2]; simp [go_sem]
        have t1 : W2.cell? ⟨wr.heap.size, 1, none⟩ = some (.int .i64 x1) := by rw [← hW2]; simp [go_sem]
        have t2 : W2.cell? ⟨wr.heap.size, 2, none⟩ = some (.int .i64 x2) := by rw [← hW2]; simp [go_sem]
        have t3 : W2.cell? ⟨wr.heap.size, 3, none⟩ = some (.string x3) := by rw [← hW2]; simp [go_sem]
        have t4 : W2.cell? ⟨wr.heap.size, 4, none⟩ = some (.int .i64 x4) := by rw [← hW2]; simp [go_sem]
        have HO2 : Hid (W2.ownsRow w.heap.size 25 5 u6 k (fl (l.take k))) := by rw [← hW2]; exact hown.out.alloc _
        clear hW2 c0 c1 c2 c3 c4 hown
        refine (mark_is ⟨x0, x1, x2, x3, x4⟩ _ _ _ HR1).mono ?_
        rintro e w3 ⟨rfl, hw3⟩
        have HB3 : Hid (Below W2.heap.size W2 w3) := hw3
        have p0 := (HB3.out.cell (p := ⟨wr.heap.size, 0, none⟩) hs2).trans t0
        have p1 := (HB3.out.cell (p := ⟨wr.heap.size, 1, none⟩) hs2).trans t1
        have p2 := (HB3.out.cell (p := ⟨wr.heap.size, 2, none⟩) hs2).trans t2
        have p3 := (HB3.out.cell (p := ⟨wr.heap.size, 3, none⟩) hs2).trans t3
        have p4 := (HB3.out.cell (p := ⟨wr.heap.size, 4, none⟩) hs2).trans t4
        clear hw3
        go_wp2_with fail
        refine (mark_is ⟨x0, x1, x2, x3, x4⟩ _ _ _ HR2).mono ?_
        rintro e w4 ⟨rfl, hw4⟩
        have HB4 : Hid (Below W2.heap.size W2 w4) := HB3.out.trans (hw4.mono HB3.out.size)
        have q0 := (HB4.out.cell (p := ⟨wr.heap.size, 0, none⟩) hs2).trans t0
        have q1 := (HB4.out.cell (p := ⟨wr.heap.size, 1, none⟩) hs2).trans t1
        have q2 := (HB4.out.cell (p := ⟨wr.heap.size, 2, none⟩) hs2).trans t2
        have q3 := (HB4.out.cell (p := ⟨wr.heap.size, 3, none⟩) hs2).trans t3
        have q4 := (HB4.out.cell (p := ⟨wr.heap.size, 4, none⟩) hs2).trans t4
        clear p0 p1 p2 p3 p4
        clear hw4
        have HO4 := Lib.hid (own_below HO2.out HB4.out)
        have HBw : Hid (Below w.heap.size w w4) := (HB.out.trans (HG.out.mono hsz)).trans (HB4.out.mono (by omega))
        have hszc := HB4.out.size
        clear t0 t1 t2 t3 t4
        go_wp2_with (at_builtin; go_must (refine wpList_push rfl _ _ rfl w.heap.size _ k (l.take k) rfl (HO4.out.alloc _) w4.heap.size x0 x1 x2 x3 x4 rfl (heap_new' _ _) (by omega) (by simp; omega) ?c4))
        case c4 =>
          intro g cap w9 h1 h2 h3
          have HO5 : Hid (w9.ownsRow w.heap.size 25 5 (.slice (some ⟨g, 0, none⟩) (k + 1) cap) (k + 1) (fl (l.take (k + 1)))) := by rw [HT.out]; exact h1
          have HB5 : Hid (Below w.heap.size w w9) := (HBw.out.alloc (by omega) _).grown h2 (by simp; omega) (fun g hg => (HO4.out.lt g hg).1)
          clear h1 h2 h3
          go_wp2
          go_roundw
          case rel => exact ⟨k + 1, (d - 1), by omega, by go_num, rfl, by omega, by omega, HO5, HB5.out⟩
          case measure => simp [intOf]; omega
      · -- deep False, r1 True, r2 False
        go_wp2_with fail
        generalize hW2 : World.alloc wr _ = W2
        have HG : Hid (Below wr.heap.size wr W2) := by rw [← hW2]; exact (Below.refl _ _).alloc (Nat.le_refl _) _
        have hs2 : wr.heap.size < W2.heap.size := by rw [← hW2]; simp [go_sem]
        have t0 : W2.cell? ⟨wr.heap.size, 0, none⟩ = some (.int .i64 x0) := by rw [← hW2]; simp [go_sem]
        have t1 : W2.cell? ⟨wr.heap.size, 1, none⟩ = some (.int .i64 x1) := by rw [← hW2]; simp [go_sem]
        have t2 : W2.cell? ⟨wr.heap.size, 2, none⟩ = some (.int .i64 x2) := by rw [← hW2]; simp [go_sem]
        have t3 : W2.cell? ⟨wr.heap.size, 3, none⟩ = some (.string x3) := by rw [← hW2]; simp [go_sem]
        have t4 : W2.cell? ⟨wr.heap.size, 4, none⟩ = some (.int .i64 x4) := by rw [← hW2]; simp [go_sem]
        have HO2 : Hid (W2.ownsRow w.heap.size 25 5 u6 k (fl (l.take k))) := by rw [← hW2]; exact hown.out.alloc _
        clear hW2 c0 c1 c2 c3 c4 hown
        refine (mark_is ⟨x0, x1, x2, x3, x4⟩ _ _ _ HR1).mono ?_
        rintro e w3 ⟨rfl, hw3⟩
        have HB3 : Hid (Below W2.heap.size W2 w3) := hw3
        have p0 := (HB3.out.cell (p := ⟨wr.heap.size, 0, none⟩) hs2).trans t0
        have p1 := (HB3.out.cell (p := ⟨wr.heap.size, 1, none⟩) hs2).trans t1
        have p2 := (HB3.out.cell (p := ⟨wr.heap.size, 2, none⟩) hs2).trans t2
        have p3 := (HB3.out.cell (p := ⟨wr.heap.size, 3, none⟩) hs2).trans t3
        have p4 := (HB3.out.cell (p := ⟨wr.heap.size, 4, none⟩) hs2).trans t4
        clear hw3
        go_wp2_with fail
        refine (mark_is ⟨x0, x1, x2, x3, x4⟩ _ _ _ HR2).mono ?_
        rintro e w4 ⟨rfl, hw4⟩
        have HB4 : Hid (Below W2.heap.size W2 w4) := HB3.out.trans (hw4.mono HB3.out.size)
        have q0 := (HB4.out.cell (p := ⟨wr.heap.size, 0, none⟩) hs2).trans t0
        have q1 := (HB4.out.cell (p := ⟨wr.heap.size, 1, none⟩) hs2).trans t1
        have q2 := (HB4.out.cell (p := ⟨wr.heap.size, 2, none⟩) hs2).trans t2
        have q3 := (HB4.out.cell (p := ⟨wr.heap.size, 3, none⟩) hs2).trans t3
        have q4 := (HB4.out.cell (p := ⟨wr.heap.size, 4, none⟩) hs2).trans t4
        clear p0 p1 p2 p3 p4
        clear hw4
        have HO4 := Lib.hid (own_below HO2.out HB4.out)
        have HBw : Hid (Below w.heap.size w w4) := (HB.out.trans (HG.out.mono hsz)).trans (HB4.out.mono (by omega))
        have hszc := HB4.out.size
        clear t0 t1 t2 t3 t4
        go_wp2_with (at_builtin; go_must (refine wpList_push rfl _ _ rfl w.heap.size _ k (l.take k) rfl (HO4.out.alloc _) w4.heap.size x0 x1 x2 x3 x4 rfl (heap_new' _ _) (by omega) (by simp; omega) ?c4))
        case c4 =>
          intro g cap w9 h1 h2 h3
          have HO5 : Hid (w9.ownsRow w.heap.size 25 5 (.slice (some ⟨g, 0, none⟩) (k + 1) cap) (k + 1) (fl (l.take (k + 1)))) := by rw [HT.out]; exact h1
          have HB5 : Hid (Below w.heap.size w w9) := (HBw.out.alloc (by omega) _).grown h2 (by simp; omega) (fun g hg => (HO4.out.lt g hg).1)
          clear h1 h2 h3
          go_wp2
          go_roundw
          case rel => exact ⟨k + 1, (d + 1), by omega, by go_num, rfl, by omega, by omega, HO5, HB5.out⟩
          case measure => simp [intOf]; omega
      · -- deep False, r1 True, r2 True
        go_wp2_with fail
        generalize hW2 : World.alloc wr _ = W2
        have HG : Hid (Below wr.heap.size wr W2) := by rw [← hW2]; exact (Below.refl _ _).alloc (Nat.le_refl _) _
        have hs2 : wr.heap.size < W2.heap.size := by rw [← hW2]; simp [go_sem]
        have t0 : W2.cell? ⟨wr.heap.size, 0, none⟩ = some (.int .i64 x0) := by rw [← hW2]; simp [go_sem]
        have t1 : W2.cell? ⟨wr.heap.size, 1, none⟩ = some (.int .i64 x1) := by rw [← hW2]; simp [go_sem]
        have t2 : W2.cell? ⟨wr.heap.size, 2, none⟩ = some (.int .i64 x2) := by rw [← hW2]; simp [go_sem]
        have t3 : W2.cell? ⟨wr.heap.size, 3, none⟩ = some (.string x3) := by rw [← hW2]; simp [go_sem]
        have t4 : W2.cell? ⟨wr.heap.size, 4, none⟩ = some (.int .i64 x4) := by rw [← hW2]; simp [go_sem]
        have HO2 : Hid (W2.ownsRow w.heap.size 25 5 u6 k (fl (l.take k))) := by rw [← hW2]; exact hown.out.alloc _
        clear hW2 c0 c1 c2 c3 c4 hown
        refine (mark_is ⟨x0, x1, x2, x3, x4⟩ _ _ _ HR1).mono ?_
        rintro e w3 ⟨rfl, hw3⟩
        have HB3 : Hid (Below W2.heap.size W2 w3) := hw3
        have p0 := (HB3.out.cell (p := ⟨wr.heap.size, 0, none⟩) hs2).trans t0
        have p1 := (HB3.out.cell (p := ⟨wr.heap.size, 1, none⟩) hs2).trans t1
        have p2 := (HB3.out.cell (p := ⟨wr.heap.size, 2, none⟩) hs2).trans t2
        have p3 := (HB3.out.cell (p := ⟨wr.heap.size, 3, none⟩) hs2).trans t3
        have p4 := (HB3.out.cell (p := ⟨wr.heap.size, 4, none⟩) hs2).trans t4
        clear hw3
        go_wp2_with fail
        refine (mark_is ⟨x0, x1, x2, x3, x4⟩ _ _ _ HR2).mono ?_
        rintro e w4 ⟨rfl, hw4⟩
        have HB4 : Hid (Below W2.heap.size W2 w4) := HB3.out.trans (hw4.mono HB3.out.size)
        have q0 := (HB4.out.cell (p := ⟨wr.heap.size, 0, none⟩) hs2).trans t0
        have q1 := (HB4.out.cell (p := ⟨wr.heap.size, 1, none⟩) hs2).trans t1
        have q2 := (HB4.out.cell (p := ⟨wr.heap.size, 2, none⟩) hs2).trans t2
        have q3 := (HB4.out.cell (p := ⟨wr.heap.size, 3, none⟩) hs2).trans t3
        have q4 := (HB4.out.cell (p := ⟨wr.heap.size, 4, none⟩) hs2).trans t4
        clear p0 p1 p2 p3 p4
        clear hw4
        have HO4 := Lib.hid (own_below HO2.out HB4.out)
        have HBw : Hid (Below w.heap.size w w4) := (HB.out.trans (HG.out.mono hsz)).trans (HB4.out.mono (by omega))
        have hszc := HB4.out.size
        clear t0 t1 t2 t3 t4
        go_wp2_with (at_builtin; go_must (refine wpList_push rfl _ _ rfl w.heap.size _ k (l.take k) rfl (HO4.out.alloc _) w4.heap.size x0 x1 x2 x3 x4 rfl (heap_new' _ _) (by omega) (by simp; omega) ?c4))
        case c4 =>
          intro g cap w9 h1 h2 h3
          have HO5 : Hid (w9.ownsRow w.heap.size 25 5 (.slice (some ⟨g, 0, none⟩) (k + 1) cap) (k + 1) (fl (l.take (k + 1)))) := by rw [HT.out]; exact h1
          have HB5 : Hid (Below w.heap.size w w9) := (HBw.out.alloc (by omega) _).grown h2 (by simp; omega) (fun g hg => (HO4.out.lt g hg).1)
          clear h1 h2 h3
          go_wp2
          go_roundw
          case rel => exact ⟨k + 1, d, by omega, by go_num, rfl, by omega, by omega, HO5, HB5.out⟩
          case measure => simp [intOf]; omega
    · have : k = l.length := by omega
      subst this
      rw [List.take_length] at hown
      have HB := Lib.hid hB
      obtain ⟨ar, cr, rfl⟩ := own_slice hown.out
      clear hB hk hlt hd1 hd2
      go_wp2_with fail
      refine (tell_plain l lo _ base wb kb true (.slice none 0 0) us o es clock f _ (sl_of_own hown.out) (HW.out.keep (HB.out.block wb hwb)) (own_below HO.out HB.out) (Nat.le_trans hbase HB.out.size) ((HB.out.block kb hkb).trans HM.out) HF.out HL.out hlen).mono ?_
      rintro e w2 ⟨rfl, o', hW2, hO2, hU2, hb2⟩
      have HP : Hid (TellPost w base wb true kb (.slice none 0 0) us o lo l (.returned (.tuple #[])) w2) := ⟨rfl, o', hW2, hO2, (Outs.of_below HB.out).trans hU2 (fun x hx => .inl hx), fun g hg => (hb2 g hg).imp id (fun h => by have := HB.out.size; omega)⟩
      clear hW2 hO2 hU2 hb2
      go_wp2
      exact bodyPost_ret (v := .tuple #[]) (by simp [results, Try.results20, go_sem]) rfl HP.out
end Go.Proofs.Ytaliplbbmhfenaa

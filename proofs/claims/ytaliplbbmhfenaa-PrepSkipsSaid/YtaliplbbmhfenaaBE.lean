/-
  directive: endif, else, if of one number.
-/
import Derived.Test.YtaliplbbmhfenaaBD
namespace Go.Proofs.Ytaliplbbmhfenaa
open Go.MapKept Go.ChangeShapes Go.WideShapes Go.ChangeAt Go.RowKit Go.Deep Go.Joins Go.Instr
theorem tok_at {w : World} {b off n c : Nat} {l : List TkD} (h : Sl w 5 TkD.enc (.slice (some ⟨b, off, none⟩) n c) l) (h0 : 0 < l.length) :
    b < w.heap.size ∧ n = l.length ∧ l.length ≤ c ∧ ∀ i, i < l.length → ∀ j, j < 5 → w.cell? ⟨b, off + i * 5 + j, none⟩ = some ((l.getD i default).enc j) := by
  obtain ⟨_, _, e, h2, _, h4⟩ := h
  injection e with e1 e2 e3
  obtain ⟨b', off', e, hb, hc⟩ := h4 h0
  rw [← e1] at e
  injection e with e
  injection e with e1 e4 _
  subst e1; subst e4
  exact ⟨hb, e2, by rw [e3]; exact h2, hc⟩
set_option maxRecDepth 100000 in
set_option maxHeartbeats 8000000 in
theorem dir_endif (d : TkD) (wb kb ob cap base b off c : Nat) (inl a bt k dd : Bool) (us at_ : Int) (o : Value) (w : World) (hs : Sl w 5 TkD.enc (.slice (some ⟨b, off, none⟩) 1 c) [d]) (hd : d.kind = 1) (hdt : d.text = ⟨#[101, 110, 100, 105, 102]⟩) (hc : c = 1)
    (hw : Wk w wb inl kb (.slice (some ⟨ob, 0, none⟩) 1 cap) us o) (ho : OpenC w base ob cap a bt k dd) (hcap : 1 ≤ cap) :
    Calls Try.prog 17 #[.pointer (some ⟨wb, 0, none⟩), .slice (some ⟨b, off, none⟩) 1 c, .int .i64 at_] w (EndP w wb inl kb us o ob cap) := by
  subst hc
  obtain ⟨hb, -, -, hcc⟩ := tok_at hs (by simp)
  have c0 : w.cell? ⟨b, off, none⟩ = some (.int .i64 1) := by
    have := hcc 0 (by simp) 0 (by omega)
    rw [← hd]; simpa [TkD.enc] using this
  have c3 : w.cell? ⟨b, off + 3, none⟩ = some (.string ⟨#[101, 110, 100, 105, 102]⟩) := by
    have := hcc 0 (by simp) 3 (by omega)
    rw [← hdt]; simpa [TkD.enc] using this
  have HW := Lib.hid hw; have HO := Lib.hid ho
  clear hs hcc hw ho hd hdt
  go_enter Try.func17, Try.ntmps17
  go_wp2_with fail
  refine (turns_endif wb kb ob cap base _ inl a bt k dd us at_ o _ w HW.out HO.out hcap).mono ?_
  rintro e w2 ⟨rfl, h1, h2⟩
  have HP : Hid (EndP w wb inl kb us o ob cap (.returned (.tuple #[])) w2) := ⟨rfl, h1, h2⟩
  clear h1 h2
  go_wp2
  exact bodyPost_ret (v := .tuple #[]) (by simp [results, Try.results17, go_sem]) rfl HP.out
set_option maxRecDepth 100000 in
set_option maxHeartbeats 8000000 in
theorem dir_else (d : TkD) (wb kb ob cap base b off c : Nat) (inl a k dd : Bool) (us at_ : Int) (o : Value) (w : World) (hs : Sl w 5 TkD.enc (.slice (some ⟨b, off, none⟩) 1 c) [d]) (hd : d.kind = 1) (hdt : d.text = ⟨#[101, 108, 115, 101]⟩) (hc : c = 1)
    (hw : Wk w wb inl kb (.slice (some ⟨ob, 0, none⟩) 1 cap) us o) (ho : OpenC w base ob cap a false k dd) (hne : ob ≠ wb) :
    Calls Try.prog 17 #[.pointer (some ⟨wb, 0, none⟩), .slice (some ⟨b, off, none⟩) 1 c, .int .i64 at_] w (ElseP w wb inl kb us o base ob cap a dd) := by
  subst hc
  obtain ⟨hb, -, -, hcc⟩ := tok_at hs (by simp)
  have c0 : w.cell? ⟨b, off, none⟩ = some (.int .i64 1) := by
    have := hcc 0 (by simp) 0 (by omega)
    rw [← hd]; simpa [TkD.enc] using this
  have c3 : w.cell? ⟨b, off + 3, none⟩ = some (.string ⟨#[101, 108, 115, 101]⟩) := by
    have := hcc 0 (by simp) 3 (by omega)
    rw [← hdt]; simpa [TkD.enc] using this
  have HW := Lib.hid hw; have HO := Lib.hid ho
  clear hs hcc hw ho hd hdt
  go_enter Try.func17, Try.ntmps17
  go_wp2_with fail
  refine (turns_else wb kb ob cap base _ inl a k dd us at_ o _ w HW.out HO.out hne).mono ?_
  rintro e w2 ⟨rfl, h1, h2, h3⟩
  have HP : Hid (ElseP w wb inl kb us o base ob cap a dd (.returned (.tuple #[])) w2) := ⟨rfl, h1, h2, h3⟩
  clear h1 h2 h3
  go_wp2
  exact bodyPost_ret (v := .tuple #[]) (by simp [results, Try.results17, go_sem]) rfl HP.out
set_option maxRecDepth 100000 in
set_option maxHeartbeats 8000000 in
theorem dir_if (d t : TkD) (wb kb b off c clock : Nat) (inl : Bool) (us at_ : Int) (o : Value) (es : Array MapEntry) (f : ByteArray → Option MacD) (w : World) (hs : Sl w 5 TkD.enc (.slice (some ⟨b, off, none⟩) 2 c) [d, t]) (hd : d.kind = 1) (hdt : d.text = ⟨#[105, 102]⟩) (ht : t.kind = 2) (hc : c = 2)
    (hw : Wk w wb inl kb (.slice none 0 0) us o) (hm : w.heap[kb]? = some (.map es clock)) (hf : Kno es f) (bv : Bool) (hbv : decide (t.n ≠ 0) = bv) :
    Calls Try.prog 17 #[.pointer (some ⟨wb, 0, none⟩), .slice (some ⟨b, off, none⟩) 2 c, .int .i64 at_] w (OpP w wb inl kb us o bv) := by
  subst hc
  have HSt := Lib.hid (hs.tail (by omega))
  obtain ⟨hb, -, -, hcc⟩ := tok_at hs (by simp)
  have c0 : w.cell? ⟨b, off, none⟩ = some (.int .i64 1) := by
    have := hcc 0 (by simp) 0 (by omega)
    rw [← hd]; simpa [TkD.enc] using this
  have c3 : w.cell? ⟨b, off + 3, none⟩ = some (.string ⟨#[105, 102]⟩) := by
    have := hcc 0 (by simp) 3 (by omega)
    rw [← hdt]; simpa [TkD.enc] using this
  have c5 : w.cell? ⟨b, off + 5, none⟩ = some (.int .i64 2) := by
    have := hcc 1 (by simp) 0 (by omega)
    rw [← ht]; simpa [TkD.enc] using this
  have HW := Lib.hid hw; have HM := Lib.hid hm; have HF := Lib.hid hf; have HTK := Lib.hid ht; have HBV := Lib.hid hbv
  have hwb := hw.lt
  have hkb : kb < w.heap.size := (Array.getElem?_eq_some_iff.1 hm).1
  clear hs hcc hw hm hf hd hdt ht hbv
  go_enter Try.func17, Try.ntmps17
  go_wp2_with fail
  refine (kept0 wb kb inl us o _ HW.out).mono ?_
  rintro e w1 ⟨rfl, hw1⟩
  have HB1 := Lib.hid hw1
  clear hw1
  go_wp2_with fail
  refine (kept0 wb kb inl us o _ (HW.out.keep (HB1.out.block wb hwb))).mono ?_
  rintro e w2 ⟨rfl, hw2⟩
  have HB2 : Hid (Below w.heap.size w w2) := HB1.out.trans (hw2.mono HB1.out.size)
  have d5 := (HB2.out.cell (p := ⟨b, off + 5, none⟩) hb).trans c5
  clear hw2 c0 c3 c5
  go_wp2_with fail
  have hh := (holds_num wb kb b (off + 5) 1 clock inl (.slice none 0 0) o us at_ t es f w2 (HW.out.keep (HB2.out.block wb hwb)) ((HB2.out.block kb hkb).trans HM.out) HF.out (HSt.out.keep HB2.out) HTK.out rfl)
  rw [HBV.out] at hh
  refine hh.mono ?_
  rintro e w3 ⟨rfl, hw3, hu3⟩
  clear hh
  have HW3 := Lib.hid hw3
  have HU3 : Hid (OutsP (fun k => k = wb) w w3) := (OutsP.of_below HB2.out).trans hu3 (fun _ h => .inl h)
  clear hw3 hu3 d5
  go_wp2_with fail
  refine (opens_first wb kb inl _ us at_ o _ HW3.out).mono ?_
  rintro e w4 ⟨rfl, ob, cap, h1, h2, h3⟩
  have HP : Hid (OpP w wb inl kb us o bv (.returned (.tuple #[])) w4) := ⟨rfl, ob, cap, h1, own_base h2 HU3.out.size, HU3.out.trans h3 (fun _ h => .inl h)⟩
  clear h1 h2 h3
  go_wp2
  go_end0
  exact HP.out
end Go.Proofs.Ytaliplbbmhfenaa

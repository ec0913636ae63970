/-
  directive: define.
-/
import Derived.Test.YtaliplbbmhfenaaP
namespace Go.Proofs.Ytaliplbbmhfenaa
open Go.MapKept Go.ChangeShapes Go.WideShapes Go.ChangeAt Go.RowKit Go.Deep Go.Joins Go.Instr
set_option maxRecDepth 100000 in
set_option maxHeartbeats 8000000 in
theorem dir_define (d x : TkD) (B : List TkD) (zz : ByteArray) (b off m c : Nat) (at_ : Int) (wb kb clock : Nat) (o : Value) (us : Int) (w : World)
    (hs : Sl w 5 TkD.enc (.slice (some ⟨b, off, none⟩) (m + 1) c) (d :: x :: B)) (hd : d.kind = 1) (hdt : d.text = ⟨#[100, 101, 102, 105, 110, 101]⟩) (hx : x.kind = 1) (hz : x.text = zz) (hnd : ¬ zz = ⟨#[100, 101, 102, 105, 110, 101, 100]⟩) (hno : ∀ t ∈ B, isF 4 t ⟨#[40]⟩ = false) (hlen : m ≤ 10000)
    (hw : Wk w wb false kb (.slice none 0 0) us o) (hm : w.heap[kb]? = some (.map #[] clock)) :
    Calls Try.prog 17 #[.pointer (some ⟨wb, 0, none⟩), .slice (some ⟨b, off, none⟩) (m + 1) c, .int .i64 at_] w (DefP w kb clock zz B) := by
  obtain ⟨_, _, e, _, hA⟩ := sl_open hs
  injection e with e1 e2 e3
  subst e1; subst e3
  obtain ⟨_, _, e, hb, hc⟩ := hA.out (by simp)
  injection e with e; injection e with e1 e4; subst e1; subst e4
  have hmB : m = B.length + 1 := by simpa using e2
  have hnc : m + 1 ≤ c := by obtain ⟨_, _, e, h, _⟩ := hs; injection e with e5 e6 e7; subst e7; rw [e6]; exact h
  have hcm : c ≤ 9223372036854775807 := by obtain ⟨_, _, e, _, h, _⟩ := hs; injection e with e5 e6 e7; subst e7; unfold maxLen at h; omega
  have hc1 : c ≠ 1 := by omega
  have HSt := Lib.hid (hs.tail hc1)
  have c0 : w.cell? ⟨b, off, none⟩ = some (.int .i64 1) := by
    have := hc 0 (by simp) 0 (by omega)
    rw [← hd]; simpa [TkD.enc] using this
  have c3 : w.cell? ⟨b, off + 3, none⟩ = some (.string ⟨#[100, 101, 102, 105, 110, 101]⟩) := by
    have := hc 0 (by simp) 3 (by omega)
    rw [← hdt]; simpa [TkD.enc] using this
  have c5 : w.cell? ⟨b, off + 5, none⟩ = some (.int .i64 1) := by
    have := hc 1 (by simp) 0 (by omega)
    rw [← hx]; simpa [TkD.enc] using this
  clear hc hA hs e2
  have hwb : wb < w.heap.size := hw.lt
  have hkb : kb < w.heap.size := (Array.getElem?_eq_some_iff.1 hm).1
  have HW := Lib.hid hw; have HM := Lib.hid hm; have HN := Lib.hid hno; have HX := Lib.hid hx; have HZ := Lib.hid hz; have HND := Lib.hid hnd
  clear hw hm hno hnd hx hz hd hdt
  have hm1 : 1 ≤ m := by omega
  have e1 : ((m : Int) == 1) = decide (B = []) := by
    rw [Bool.eq_iff_iff, beq_iff_eq, decide_eq_true_iff]
    constructor
    · intro h
      exact List.length_eq_zero_iff.1 (by omega)
    · rintro rfl
      have : m = 1 := by simpa using hmB
      omega
  have HMB := Lib.hid hmB
  clear hmB
  go_enter Try.func17, Try.ntmps17
  go_wp2_with fail
  refine (kept0 wb kb false us o _ HW.out).mono ?_
  rintro e w1 ⟨rfl, hw1⟩
  have HB1 := Lib.hid hw1
  have hbb : b < w1.heap.size := by have := hw1.size; omega
  have d5 := (hw1.cell (p := ⟨b, off + 5, none⟩) hb).trans c5
  clear hw1 c0 c3 c5
  have HW1 := Lib.hid (HW.out.keep (HB1.out.block wb hwb))
  have HM1 := Lib.hid ((HB1.out.block kb hkb).trans HM.out)
  have HS1 := Lib.hid (HSt.out.keep HB1.out)
  by_cases hB0 : B = []
  · have e1' : ((m : Int) == 1) = true := by rw [e1]; simpa using hB0
    clear e1
    have HB0 := Lib.hid hB0; clear hB0
    go_wp2_with fail
    refine (define_first x B zz b (off + 5) m (c - 1) at_ wb kb clock o us w1 HS1.out HX.out HZ.out HND.out HN.out hlen HW1.out HM1.out).mono ?_
    rintro e w2 ⟨rfl, ba, bc, h1, h2, h3⟩
    have HP : Hid (DefP w kb clock zz B (.returned (.tuple #[])) w2) := ⟨rfl, ba, bc, h1, h2, (OutsP.of_below HB1.out).trans h3 (fun x hx => .inl hx)⟩
    clear h1 h2 h3
    go_wp2
    go_end0
    exact HP.out
  · have e1' : ((m : Int) == 1) = false := by rw [e1]; simpa using hB0
    clear e1 hB0
    go_wp2_with fail
    refine (define_first x B zz b (off + 5) m (c - 1) at_ wb kb clock o us w1 HS1.out HX.out HZ.out HND.out HN.out hlen HW1.out HM1.out).mono ?_
    rintro e w2 ⟨rfl, ba, bc, h1, h2, h3⟩
    have HP : Hid (DefP w kb clock zz B (.returned (.tuple #[])) w2) := ⟨rfl, ba, bc, h1, h2, (OutsP.of_below HB1.out).trans h3 (fun x hx => .inl hx)⟩
    clear h1 h2 h3
    go_wp2
    go_end0
    exact HP.out
end Go.Proofs.Ytaliplbbmhfenaa

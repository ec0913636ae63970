/-
  done of tokens, one macro known; the empty row told.
-/
import Derived.Test.YtaliplbbmhfenaaN
import Derived.Test.YtaliplbbmhfenaaQ
namespace Go.Proofs.Ytaliplbbmhfenaa
open Go.MapKept Go.ChangeShapes Go.WideShapes Go.ChangeAt Go.RowKit Go.Deep Go.Joins Go.Instr
set_option maxHeartbeats 2000000 in
theorem done_once (zz : ByteArray) (l B : List TkD) (v : Value) (wb kb bc : Nat) (ba : Option Addr) (op o : Value) (us : Int) (es : Array MapEntry) (clock : Nat) (w : World) (hs : Sl w 5 TkD.enc v l) (hB : Sl w 5 TkD.enc (.slice ba B.length bc) B)
    (hw : Wk w wb false kb op us o) (hm : w.heap[kb]? = some (.map es clock)) (hf : Kno es (knF zz ⟨false, none, 0, 0, ba, B.length, bc⟩)) (hpl : ∀ t ∈ B, t.kind = 1 → t.text ≠ zz)
    (hus : 0 ≤ us) (hus2 : us + usL zz l ≤ 4000) (hlen : (exL zz B l).length ≤ 8192) (hBl : B.length ≤ 8192) (hll : l.length ≤ 8192) :
    Calls Try.prog 27 #[.pointer (some ⟨wb, 0, none⟩), v] w (DonePost w wb false kb op (us + usL zz l) o (exL zz B l)) := by
  obtain ⟨aa, ca, rfl, ma, HA⟩ := sl_open hs
  have hwb := hw.lt
  have hkb : kb < w.heap.size := (Array.getElem?_eq_some_iff.1 hm).1
  have hmf : ∀ (fn : Fn) (first cap : Array Value) (w : World), (Instr.makeFunc fn first cap).run Try.prog w = .ok (.func fn first cap) w := fun _ _ _ _ => rfl
  have HS := Lib.hid hs; have HW := Lib.hid hw; have HM := Lib.hid hm; have HF := Lib.hid hf; have HL := Lib.hid hpl; have HB := Lib.hid hB
  clear hs hw hm hf hpl HA hB
  go_enter Try.func27, Try.ntmps27
  go_wp2_with fail
  generalize hW1 : World.alloc (World.alloc w _) _ = W1
  have hg : Below w.heap.size w W1 := by rw [← hW1]; go_grown
  have hp : W1.cell? ⟨w.heap.size, 0, none⟩ = some (.pointer (some ⟨wb, 0, none⟩)) := by rw [← hW1]; simp [go_sem]
  have hd : W1.cell? ⟨w.heap.size + 1, 0, none⟩ = some (.func (.func 36) #[] #[.pointer (some ⟨w.heap.size, 0, none⟩), .pointer (some ⟨w.heap.size + 1, 0, none⟩)]) := by rw [← hW1]; simp [go_sem]
  clear hW1
  have HG := Lib.hid hg; have HP := Lib.hid hp; have HD := Lib.hid hd; clear hg hp hd
  refine (do_once zz l B _ w.heap.size (w.heap.size + 1) wb kb bc ba op o us es clock _ (HS.out.keep HG.out) (HB.out.keep HG.out) HP.out HD.out (HW.out.keep (HG.out.block wb hwb)) ((HG.out.block kb hkb).trans HM.out) HF.out HL.out hus hus2 hlen hBl hll).mono ?_
  rintro e w2 ⟨v', rfl, hown, hw2, hu2⟩
  have HO := Lib.hid hown; have HW2 := Lib.hid hw2; have HU := Lib.hid hu2
  clear hown hw2 hu2
  obtain ⟨a2, c2, rfl⟩ := own_slice HO.out
  go_wp2
  go_ret
  exact ⟨_, rfl, own_base HO.out HG.out.size, HW2.out, (OutsP.of_below HG.out).trans HU.out (fun x hx => .inl hx)⟩
/-- done of tokens none of which is used. -/
theorem done_plain' (l : List TkD) (v : Value) (wb kb : Nat) (inl : Bool) (op o : Value) (us : Int) (es : Array MapEntry) (clock : Nat) (f : ByteArray → Option MacD) (w : World) (hs : Sl w 5 TkD.enc v l) (hl : l.length ≤ 8192)
    (hw : Wk w wb inl kb op us o) (hm : w.heap[kb]? = some (.map es clock)) (hf : Kno es f) (hpl : ∀ t ∈ l, t.kind = 1 → f t.text = none) :
    Calls Try.prog 27 #[.pointer (some ⟨wb, 0, none⟩), v] w (DonePost w wb inl kb op us o l) :=
  (done_plain l v wb kb es clock f w hs hl hw.c1 hm hf hpl).mono fun _ _ ⟨v', he, ho, hb⟩ => ⟨v', he, ho, hw.keep (hb.block wb hw.lt), OutsP.of_below hb⟩
theorem tell_nil (base wb kb : Nat) (inl : Bool) (op : Value) (us : Int) (o : Value) (lo : List TkD) (es : Array MapEntry) (clock : Nat) (f : ByteArray → Option MacD) (w : World)
    (hw : Wk w wb inl kb op us o) (hown : w.ownsRow base 25 5 o lo.length (fl lo)) (hbase : base ≤ w.heap.size) (hm : w.heap[kb]? = some (.map es clock)) (hf : Kno es f) (hlen : lo.length ≤ 8192) :
    Calls Try.prog 16 #[.pointer (some ⟨wb, 0, none⟩), .slice none 0 0] w (TellP w base wb inl kb op us o lo []) :=
  tell_gen [] lo none 0 0 base wb kb inl op us us o w (done_plain' [] _ wb kb inl op o us es clock f w (sl_empty _ _ (by decide)) (by simp) hw hm hf (fun t ht => by simp at ht)) hw hown hbase (by simpa using hlen)
theorem ba_beq (a b : ByteArray) : (a == b) = decide (a = b) := by
  rw [Bool.eq_iff_iff, decide_eq_true_iff]
  show (a.data == b.data) = true ↔ a = b
  rw [beq_iff_eq]
  exact ⟨fun h => ByteArray.ext h, fun h => by rw [h]⟩
theorem kno_one (zz : ByteArray) (m : MacD) (born : Nat) : Kno #[{ key := .string zz, val := m.val, born := born }] (knF zz m) := by
  intro s
  by_cases h : s = zz
  · subst h
    exact ⟨some (0, m.val), by simp [Instr.findNow, Instr.sameNow, ba_beq], by simp [lkV, lkM, knF]⟩
  · refine ⟨none, ?_, by simp [lkV, lkM, knF, h]⟩
    simp [Instr.findNow, Instr.sameNow, ba_beq, h]
end Go.Proofs.Ytaliplbbmhfenaa

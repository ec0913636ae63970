/-
  The conditions' sums, where one number stands: takes, one, test, and, or.
-/
import Derived.Test.YtaliplbbmhfenaaM
namespace Go.Proofs.Ytaliplbbmhfenaa
open Go.MapKept Go.ChangeShapes Go.WideShapes Go.ChangeAt Go.RowKit Go.Deep Go.Joins Go.Instr
/-- The sum's block. -/
def Sm (w : World) (sb : Nat) (lv : Value) (at_ deep : Int) : Prop := w.heap[sb]? = some (.cells #[lv, .int .i64 at_, .int .i64 deep] 76 (0, 0))
theorem Sm.c0 {w : World} {sb : Nat} {lv : Value} {a d : Int} (h : Sm w sb lv a d) : w.cell? ⟨sb, 0, none⟩ = some lv := by rw [cell_of_row w sb 0 _ _ _ h]; rfl
theorem Sm.c1 {w : World} {sb : Nat} {lv : Value} {a d : Int} (h : Sm w sb lv a d) : w.cell? ⟨sb, 1, none⟩ = some (.int .i64 a) := by rw [cell_of_row w sb 1 _ _ _ h]; rfl
theorem Sm.c2 {w : World} {sb : Nat} {lv : Value} {a d : Int} (h : Sm w sb lv a d) : w.cell? ⟨sb, 2, none⟩ = some (.int .i64 d) := by rw [cell_of_row w sb 2 _ _ _ h]; rfl
theorem Sm.free {w : World} {sb : Nat} {lv : Value} {a d : Int} (h : Sm w sb lv a d) (j : Nat) : w.frozen? ⟨sb, j, none⟩ = false := by unfold World.frozen?; rw [h]; simp
theorem Sm.lt {w : World} {sb : Nat} {lv : Value} {a d : Int} (h : Sm w sb lv a d) : sb < w.heap.size := lt_of_block h
theorem Sm.keep {w w' : World} {sb : Nat} {lv : Value} {a d : Int} (h : Sm w sb lv a d) (hb : w'.heap[sb]? = w.heap[sb]?) : Sm w' sb lv a d := hb.trans h
theorem Sm.drew {w : World} {sb : Nat} {lv : Value} {a d : Int} (h : Sm w sb lv a d) : Sm w.drew sb lv a d := h
theorem Sm.set0 {w : World} {sb : Nat} {lv : Value} {a d : Int} (h : Sm w sb lv a d) (u : Value) : Sm (w.setCell ⟨sb, 0, none⟩ u) sb u a d := heap_setCell_same w sb 0 _ _ u h
theorem Sm.set2 {w : World} {sb : Nat} {lv : Value} {a d : Int} (h : Sm w sb lv a d) (u : Int) : Sm (w.setCell ⟨sb, 2, none⟩ (.int .i64 u)) sb lv a u := heap_setCell_same w sb 2 _ _ (.int .i64 u) h
set_option maxHeartbeats 2000000 in
theorem takes_none (sb n c : Nat) (ad ma : Option Addr) (m mc : Nat) (at_ deep : Int) (w : World) (h : Sm w sb (.slice ad n c) at_ deep) (hn : n = 0) :
    Calls Try.prog 53 #[.pointer (some ⟨sb, 0, none⟩), .slice ma m mc] w fun e w' => e = .returned (.string ByteArray.empty) ∧ Below w.heap.size w w' := by
  subst hn
  have c0 := h.c0
  clear h
  go_enter Try.func53, Try.ntmps53
  go_wp2
  go_ret
  exact ⟨rfl, by go_grown⟩
set_option maxHeartbeats 2000000 in
theorem takes_num (sb n c b off : Nat) (ma : Option Addr) (m mc : Nat) (at_ deep kd : Int) (w : World) (h : Sm w sb (.slice (some ⟨b, off, none⟩) n c) at_ deep) (hn : 0 < n) (hk : w.cell? ⟨b, off, none⟩ = some (.int .i64 kd)) (hkd : ¬ kd = 4) :
    Calls Try.prog 53 #[.pointer (some ⟨sb, 0, none⟩), .slice ma m mc] w fun e w' => e = .returned (.string ByteArray.empty) ∧ Below w.heap.size w w' := by
  have c0 := h.c0
  clear h
  go_enter Try.func53, Try.ntmps53
  go_wp2
  go_ret
  exact ⟨rfl, by go_grown⟩
/-- The deferred count. -/
theorem dec_any (p sb : Nat) (lv : Value) (at_ deep : Int) (u : FrameMode) (w : World) (hp : w.cell? ⟨p, 0, none⟩ = some (.pointer (some ⟨sb, 0, none⟩))) (h : Sm w sb lv at_ deep) (hd : 1 ≤ deep) (hd2 : deep ≤ 100) :
    CallsD Try.prog 56 #[.pointer (some ⟨p, 0, none⟩)] u w fun e u' w' => u' = u ∧ (e = .returned (.tuple #[]) ∧ w' = w.setCell ⟨sb, 2, none⟩ (.int .i64 (deep - 1))) := by
  have c2 := h.c2
  have z2 := h.free 2
  clear h
  go_enter_d Try.func56, Try.ntmps56
  go_wp2
  go_end0
  exact ⟨rfl, rfl⟩
theorem sl_ne_sm {w : World} {b off n c sb : Nat} {lv : Value} {a d : Int} {l : List TkD} (h : Sl w 5 TkD.enc (.slice (some ⟨b, off, none⟩) n c) l) (h0 : 0 < l.length) (hw : Sm w sb lv a d) : b ≠ sb := by
  rintro rfl
  obtain ⟨a', cap, e, _, _, hc⟩ := h
  injection e with e1 _ _
  subst e1
  obtain ⟨b', off', e, _, hc⟩ := hc h0
  injection e with e
  injection e with e1 e2 _
  subst e1; subst e2
  have h2 := hc 0 h0 4 (by omega)
  rw [cell_of_row w b _ _ _ _ hw, Array.getElem?_eq_none (by simp)] at h2
  simp at h2
theorem Sl.outs_sm {w w' : World} {sb : Nat} {lv v : Value} {a d : Int} {l : List TkD} (h : Sl w 5 TkD.enc v l) (hw : Sm w sb lv a d) (ho : OutsP (fun k => k = sb) w w') : Sl w' 5 TkD.enc v l := by
  have h' := h
  obtain ⟨a, cap, rfl, h2, h3, h4⟩ := h
  refine ⟨a, cap, rfl, h2, h3, fun hp => ?_⟩
  obtain ⟨b, off, rfl, hb, hc⟩ := h4 hp
  have hne := sl_ne_sm h' hp hw
  exact ⟨b, off, rfl, Nat.lt_of_lt_of_le hb ho.size, fun i hi j hj => (World.cell?_of_block (a := ⟨b, off + i * 5 + j, none⟩) (ho.block b hb hne)).trans (hc i hi j hj)⟩
/-- One number: taken off, told. -/
def OneP (w : World) (sb : Nat) (at_ nn : Int) (e : Ending) (w' : World) : Prop :=
  e = .returned (.int .i64 nn) ∧ (∃ a c, Sm w' sb (.slice a 0 c) at_ 0) ∧ OutsP (fun k => k = sb) w w'
set_option maxHeartbeats 4000000 in
theorem one_num (sb b off c : Nat) (at_ : Int) (t : TkD) (w : World) (h : Sm w sb (.slice (some ⟨b, off, none⟩) 1 c) at_ 0) (hs : Sl w 5 TkD.enc (.slice (some ⟨b, off, none⟩) 1 c) [t]) (ht : t.kind = 2) :
    Calls Try.prog 55 #[.pointer (some ⟨sb, 0, none⟩)] w (OneP w sb at_ t.n) := by
  have hmf : ∀ (fn : Fn) (first cap : Array Value) (w : World), (Instr.makeFunc fn first cap).run Try.prog w = .ok (.func fn first cap) w := fun _ _ _ _ => rfl
  have hsb := h.lt
  have c0 := h.c0
  have c2 := h.c2
  have z2 := h.free 2
  have HS := Lib.hid h; have HL := Lib.hid hs
  clear h hs
  go_enter_defers Try.func55, Try.ntmps55
  go_wp2_with fail
  generalize hW1 : World.alloc (World.alloc (World.setCell w _ _) _) _ = W1
  have HU1 : Hid (OutsP (fun k => k = sb) w W1) := by rw [← hW1]; exact (((OutsP.refl (fun k => k = sb) w).setCell (p := ⟨sb, 2, none⟩) (.inl rfl) _).alloc _).alloc _
  have HS1 : Hid (Sm W1 sb (.slice (some ⟨b, off, none⟩) 1 c) at_ 1) := by rw [← hW1]; exact (HS.out.set2 1).keep ((Below.heap_alloc _ _ _ (by simp [World.setCell]; omega)).trans (Below.heap_alloc _ _ _ (by simpa [World.setCell] using hsb)))
  have hp1 : W1.cell? ⟨w.heap.size, 0, none⟩ = some (.pointer (some ⟨sb, 0, none⟩)) := by rw [← hW1]; simp [go_sem]
  clear hW1 c0 c2 z2
  have HP1 := Lib.hid hp1
  have HL1 := Lib.hid (HL.out.outs_sm HS.out HU1.out)
  clear hp1
  have hlt1 : w.heap.size < W1.heap.size := World.block_lt_of_cell? W1 _ HP1.out
  have hk1 : W1.cell? ⟨b, off, none⟩ = some (.int .i64 t.kind) := by
    obtain ⟨_, _, e, _, _, h4⟩ := HL1.out
    injection e with e1 e2 e3
    obtain ⟨b', off', e, _, hc⟩ := h4 (by simp)
    rw [← e1] at e
    injection e with e
    injection e with e1 e2 _
    subst e1; subst e2
    exact hc 0 (by simp) 0 (by omega)
  refine (takes_num sb 1 c b off _ _ _ at_ 1 t.kind W1 HS1.out (by omega) hk1 (by omega)).mono ?_
  rintro e w2 ⟨rfl, hw2⟩
  have HB2 := Lib.hid hw2
  have hs2 := hw2.size
  have HS2 := Lib.hid (HS1.out.keep (hw2.block sb HS1.out.lt))
  have hp2 := (hw2.cell (p := ⟨w.heap.size, 0, none⟩) hlt1).trans HP1.out
  have hlt2 : w.heap.size < w2.heap.size := by omega
  clear hw2 hk1
  go_wp2_with fail
  have HL2 := Lib.hid (HL1.out.keep HB2.out)
  have HA2 : Hid (Below w2.heap.size w2 (w2.alloc (.cells #[.string ⟨#[40]⟩] 9))) := (Below.refl _ _).alloc (Nat.le_refl _) _
  have HLa := Lib.hid (HL2.out.keep HA2.out)
  have hka : (w2.alloc (.cells #[.string ⟨#[40]⟩] 9)).cell? ⟨b, off, none⟩ = some (.int .i64 t.kind) := by
    obtain ⟨_, _, e, _, _, h4⟩ := HLa.out
    injection e with e1 e2 e3
    obtain ⟨b', off', e, _, hc⟩ := h4 (by simp)
    rw [← e1] at e
    injection e with e
    injection e with e1 e2 _
    subst e1; subst e2
    exact hc 0 (by simp) 0 (by omega)
  refine (takes_num sb 1 c b off _ _ _ at_ 1 t.kind _ (HS2.out.keep (HA2.out.block sb HS2.out.lt)) (by omega) hka (by omega)).mono ?_
  rintro e w3 ⟨rfl, hw3⟩
  clear hka
  have HB23 : Hid (Below w2.heap.size w2 w3) := HA2.out.trans (hw3.mono HA2.out.size)
  clear hw3
  have HU3 : Hid (OutsP (fun k => k = sb) w w3) := (HU1.out.trans (OutsP.of_below HB2.out) (fun _ h => .inl h)).trans (OutsP.of_below HB23.out) (fun _ h => .inl h)
  have HS3 := Lib.hid (HS2.out.keep (HB23.out.block sb HS2.out.lt))
  have HL3 := Lib.hid (HL2.out.keep HB23.out)
  have p3 := (HB23.out.cell (p := ⟨w.heap.size, 0, none⟩) hlt2).trans hp2
  clear hp2
  have c0 := HS3.out.c0
  have z0 := HS3.out.free 0
  have hb3 : b < w3.heap.size ∧ (∀ j, j < 5 → w3.cell? ⟨b, off + j, none⟩ = some (t.enc j)) ∧ 1 ≤ c := by
    obtain ⟨_, _, e, hcc, _, h4⟩ := HL3.out
    injection e with e1 e2 e3
    obtain ⟨b', off', e, hb, hc⟩ := h4 (by simp)
    rw [← e1] at e
    injection e with e
    injection e with e1 e4 _
    subst e1; subst e4
    exact ⟨hb, fun j hj => by have := hc 0 (by simp) j hj; simpa using this, by rw [e3]; simpa using hcc⟩
  obtain ⟨hb3, hcc, hc1⟩ := hb3
  obtain ⟨k0, k1, k2, k3, k4⟩ := tk_cells (w := w3) (b := b) (off := off) hcc
  clear hcc
  obtain ⟨x0, x1, x2, x3, x4⟩ := t
  simp only at ht k0 k1 k2 k3 k4
  subst ht
  have hsb3 := HS3.out.lt
  have hlt3 : w.heap.size < w3.heap.size := World.block_lt_of_cell? w3 _ p3
  have nsb : sb ≠ w.heap.size := by omega
  go_wp2_with fail
  refine noPanic ?_
  by_cases hcap : c = 1
  · subst hcap
    go_region
    refine np_normal ?_
    go_wp2_with fail
    generalize hW4 : World.drew _ = W4
    have HS4 : Hid (Sm W4 sb (.slice (some ⟨b, off, none⟩) 0 0) at_ 1) := by rw [← hW4]; exact ((HS3.out.set0 (.slice (some ⟨b, off, none⟩) 0 0)).keep (Below.heap_alloc _ _ _ (by simpa [World.setCell] using hsb3))).drew
    have HU4 : Hid (OutsP (fun k => k = sb) w W4) := by rw [← hW4]; exact (((HU3.out.setCell (p := ⟨sb, 0, none⟩) (.inl rfl) _).alloc _).drew)
    have HP4 : Hid (W4.cell? ⟨w.heap.size, 0, none⟩ = some (.pointer (some ⟨sb, 0, none⟩))) := by
      rw [← hW4]
      exact ((((Below.refl w.heap.size.succ (w3.setCell ⟨sb, 0, none⟩ (.slice (some ⟨b, off, none⟩) 0 0))).alloc (by simp [World.setCell]; omega) _).cell (p := ⟨w.heap.size, 0, none⟩) (Nat.lt_succ_self _))).trans ((World.cell?_of_block (a := ⟨w.heap.size, 0, none⟩) (Below.heap_setCell w3 ⟨sb, 0, none⟩ _ w.heap.size (fun e => nsb e.symm))).trans p3)
    clear hW4
    refine leaves_cons (f := 56) (args := #[.pointer (some ⟨w.heap.size, 0, none⟩)]) (by simp) (by simp [go_sem]) ?_
    refine (dec_any w.heap.size sb _ at_ 1 .returning W4 HP4.out HS4.out (by omega) (by omega)).mono ?_
    rintro e u' w'' ⟨rfl, rfl, rfl⟩
    exact ⟨_, results_tmp rfl _ _ _, rfl, ⟨_, _, HS4.out.set2 _⟩, HU4.out.setCell (p := ⟨sb, 2, none⟩) (.inl rfl) _⟩
  · go_region
    refine np_normal ?_
    go_wp2_with fail
    generalize hW4 : World.drew _ = W4
    have HS4 : Hid (Sm W4 sb (.slice (some ⟨b, off + 5, none⟩) 0 (c - 1)) at_ 1) := by rw [← hW4]; exact ((HS3.out.set0 (.slice (some ⟨b, off + 5, none⟩) 0 (c - 1))).keep (Below.heap_alloc _ _ _ (by simpa [World.setCell] using hsb3))).drew
    have HU4 : Hid (OutsP (fun k => k = sb) w W4) := by rw [← hW4]; exact (((HU3.out.setCell (p := ⟨sb, 0, none⟩) (.inl rfl) _).alloc _).drew)
    have HP4 : Hid (W4.cell? ⟨w.heap.size, 0, none⟩ = some (.pointer (some ⟨sb, 0, none⟩))) := by
      rw [← hW4]
      exact ((((Below.refl w.heap.size.succ (w3.setCell ⟨sb, 0, none⟩ (.slice (some ⟨b, off + 5, none⟩) 0 (c - 1)))).alloc (by simp [World.setCell]; omega) _).cell (p := ⟨w.heap.size, 0, none⟩) (Nat.lt_succ_self _))).trans ((World.cell?_of_block (a := ⟨w.heap.size, 0, none⟩) (Below.heap_setCell w3 ⟨sb, 0, none⟩ _ w.heap.size (fun e => nsb e.symm))).trans p3)
    clear hW4
    refine leaves_cons (f := 56) (args := #[.pointer (some ⟨w.heap.size, 0, none⟩)]) (by simp) (by simp [go_sem]) ?_
    refine (dec_any w.heap.size sb _ at_ 1 .returning W4 HP4.out HS4.out (by omega) (by omega)).mono ?_
    rintro e u' w'' ⟨rfl, rfl, rfl⟩
    exact ⟨_, results_tmp rfl _ _ _, rfl, ⟨_, _, HS4.out.set2 _⟩, HU4.out.setCell (p := ⟨sb, 2, none⟩) (.inl rfl) _⟩
set_option maxHeartbeats 4000000 in
theorem test_num (sb b off c : Nat) (at_ : Int) (t : TkD) (w : World) (h : Sm w sb (.slice (some ⟨b, off, none⟩) 1 c) at_ 0) (hs : Sl w 5 TkD.enc (.slice (some ⟨b, off, none⟩) 1 c) [t]) (ht : t.kind = 2) :
    Calls Try.prog 54 #[.pointer (some ⟨sb, 0, none⟩)] w (OneP w sb at_ t.n) := by
  go_enter Try.func54, Try.ntmps54
  go_wp2_with fail
  refine (one_num sb b off c at_ t w h hs ht).mono ?_
  rintro e w1 ⟨rfl, ⟨a1, c1, h1⟩, hu1⟩
  have HS1 := Lib.hid h1; have HU1 := Lib.hid hu1
  clear h1 hu1 h hs
  go_wp2_with fail
  refine (takes_none sb 0 c1 a1 _ _ _ at_ 0 _ (HS1.out.keep (Below.heap_alloc _ _ _ HS1.out.lt)) rfl).mono ?_
  rintro e w2 ⟨rfl, hw2⟩
  have HB2 : Hid (Below w1.heap.size w1 w2) := ((Below.refl _ _).alloc (Nat.le_refl _) _).trans (hw2.mono (by simp))
  clear hw2
  go_wp2
  go_ret
  exact ⟨rfl, ⟨a1, c1, HS1.out.keep (HB2.out.block sb HS1.out.lt)⟩, HU1.out.trans (OutsP.of_below HB2.out) (fun _ h => .inl h)⟩
set_option maxHeartbeats 4000000 in
theorem and_num (sb b off c : Nat) (at_ : Int) (t : TkD) (w : World) (h : Sm w sb (.slice (some ⟨b, off, none⟩) 1 c) at_ 0) (hs : Sl w 5 TkD.enc (.slice (some ⟨b, off, none⟩) 1 c) [t]) (ht : t.kind = 2) :
    Calls Try.prog 52 #[.pointer (some ⟨sb, 0, none⟩)] w (OneP w sb at_ t.n) := by
  go_enter Try.func52, Try.ntmps52
  go_wp2_with fail
  refine (test_num sb b off c at_ t w h hs ht).mono ?_
  rintro e w1 ⟨rfl, ⟨a1, c1, h1⟩, hu1⟩
  have HS1 := Lib.hid h1; have HU1 := Lib.hid hu1
  clear h1 hu1 h hs
  go_wp2_with fail
  refine wp_loop_rounds 1 ?_
  rw [rounds_succ]
  go_wp2_with fail
  refine (takes_none sb 0 c1 a1 _ _ _ at_ 0 _ (HS1.out.keep (Below.heap_alloc _ _ _ HS1.out.lt)) rfl).mono ?_
  rintro e w2 ⟨rfl, hw2⟩
  have HB2 : Hid (Below w1.heap.size w1 w2) := ((Below.refl _ _).alloc (Nat.le_refl _) _).trans (hw2.mono (by simp))
  clear hw2
  go_wp2
  go_ret
  exact ⟨rfl, ⟨a1, c1, HS1.out.keep (HB2.out.block sb HS1.out.lt)⟩, HU1.out.trans (OutsP.of_below HB2.out) (fun _ h => .inl h)⟩
set_option maxHeartbeats 4000000 in
theorem or_num (sb b off c : Nat) (at_ : Int) (t : TkD) (w : World) (h : Sm w sb (.slice (some ⟨b, off, none⟩) 1 c) at_ 0) (hs : Sl w 5 TkD.enc (.slice (some ⟨b, off, none⟩) 1 c) [t]) (ht : t.kind = 2) :
    Calls Try.prog 40 #[.pointer (some ⟨sb, 0, none⟩)] w (OneP w sb at_ t.n) := by
  go_enter Try.func40, Try.ntmps40
  go_wp2_with fail
  refine (and_num sb b off c at_ t w h hs ht).mono ?_
  rintro e w1 ⟨rfl, ⟨a1, c1, h1⟩, hu1⟩
  have HS1 := Lib.hid h1; have HU1 := Lib.hid hu1
  clear h1 hu1 h hs
  go_wp2_with fail
  refine wp_loop_rounds 1 ?_
  rw [rounds_succ]
  go_wp2_with fail
  refine (takes_none sb 0 c1 a1 _ _ _ at_ 0 _ (HS1.out.keep (Below.heap_alloc _ _ _ HS1.out.lt)) rfl).mono ?_
  rintro e w2 ⟨rfl, hw2⟩
  have HB2 : Hid (Below w1.heap.size w1 w2) := ((Below.refl _ _).alloc (Nat.le_refl _) _).trans (hw2.mono (by simp))
  clear hw2
  go_wp2
  go_ret
  exact ⟨rfl, ⟨a1, c1, HS1.out.keep (HB2.out.block sb HS1.out.lt)⟩, HU1.out.trans (OutsP.of_below HB2.out) (fun _ h => .inl h)⟩
end Go.Proofs.Ytaliplbbmhfenaa

/-
  The reference's Walk, where it fits.
-/
import Derived.Test.YtioacgjggogflabL0
import Derived.Test.YtioacgjggogflabJ
import Derived.Test.YtioacgjggogflabQF
import Derived.StillTailTactics
import Derived.Deep.RegionHeld3
namespace Go.Proofs.Ytioacgjggogflab
open Go.ChangeShapes Go.WideShapes Go.ChangeAt Go.RowKit Go.Deep Go.Joins Go.Instr
/-- What the reference's Walk comes to: its proctype is alike the plain one; the numbers lie in memory of its own. -/
def WalkR (x : PrD) (more : List Int) (w : World) (e : Ending) (w' : World) : Prop :=
  ∃ q nv, e = .returned (.tuple #[q.val, nv, .int .i64 0]) ∧ q.rd w' ∧ PrA q (wS x more) ∧ Ow w' w.heap.size 3 1 iEnc nv (stW x more).1 ∧ Below w.heap.size w w'
theorem map_getD {α β : Type} [Inhabited α] [Inhabited β] (l : List α) (f : α → β) (q : Nat) (h : q < l.length) : (l.map f).getD q default = f (l.getD q default) := by
  simp [List.getD_eq_getElem?_getD, List.getElem?_eq_getElem h]
theorem heap_set10 (w : World) (b : Nat) (h0 : w.heap[b]? = some (.cells ZARR 26 (0, 0))) (v0 v1 v2 v3 v4 v5 v6 v7 v8 v9 : Value) :
    ((((((((((w.setCell ⟨b, 0, none⟩ v0).setCell ⟨b, 1, none⟩ v1).setCell ⟨b, 2, none⟩ v2).setCell ⟨b, 3, none⟩ v3).setCell ⟨b, 4, none⟩ v4).setCell ⟨b, 5, none⟩ v5).setCell ⟨b, 6, none⟩ v6).setCell ⟨b, 7, none⟩ v7).setCell ⟨b, 8, none⟩ v8).setCell ⟨b, 9, none⟩ v9).drew.heap[b]? = some (.cells #[v0, v1, v2, v3, v4, v5, v6, v7, v8, v9] 26 (0, 0)) := by
  have e : ∀ u : World, u.drew.heap = u.heap := fun _ => rfl
  rw [e]
  have h1 : (w.setCell ⟨b, 0, none⟩ v0).heap[b]? = some (.cells #[v0, .int .i64 0, .slice none 0 0, .slice none 0 0, .slice none 0 0, .int .i64 0, .int .i64 0, .int .i64 0, .int .i64 0, .int .i64 0] 26 (0, 0)) := heap_setCell_same _ b 0 _ 26 v0 h0
  have h2 : ((w.setCell ⟨b, 0, none⟩ v0).setCell ⟨b, 1, none⟩ v1).heap[b]? = some (.cells #[v0, v1, .slice none 0 0, .slice none 0 0, .slice none 0 0, .int .i64 0, .int .i64 0, .int .i64 0, .int .i64 0, .int .i64 0] 26 (0, 0)) := heap_setCell_same _ b 1 _ 26 v1 h1
  have h3 : (((w.setCell ⟨b, 0, none⟩ v0).setCell ⟨b, 1, none⟩ v1).setCell ⟨b, 2, none⟩ v2).heap[b]? = some (.cells #[v0, v1, v2, .slice none 0 0, .slice none 0 0, .int .i64 0, .int .i64 0, .int .i64 0, .int .i64 0, .int .i64 0] 26 (0, 0)) := heap_setCell_same _ b 2 _ 26 v2 h2
  have h4 : ((((w.setCell ⟨b, 0, none⟩ v0).setCell ⟨b, 1, none⟩ v1).setCell ⟨b, 2, none⟩ v2).setCell ⟨b, 3, none⟩ v3).heap[b]? = some (.cells #[v0, v1, v2, v3, .slice none 0 0, .int .i64 0, .int .i64 0, .int .i64 0, .int .i64 0, .int .i64 0] 26 (0, 0)) := heap_setCell_same _ b 3 _ 26 v3 h3
  have h5 : (((((w.setCell ⟨b, 0, none⟩ v0).setCell ⟨b, 1, none⟩ v1).setCell ⟨b, 2, none⟩ v2).setCell ⟨b, 3, none⟩ v3).setCell ⟨b, 4, none⟩ v4).heap[b]? = some (.cells #[v0, v1, v2, v3, v4, .int .i64 0, .int .i64 0, .int .i64 0, .int .i64 0, .int .i64 0] 26 (0, 0)) := heap_setCell_same _ b 4 _ 26 v4 h4
  have h6 : ((((((w.setCell ⟨b, 0, none⟩ v0).setCell ⟨b, 1, none⟩ v1).setCell ⟨b, 2, none⟩ v2).setCell ⟨b, 3, none⟩ v3).setCell ⟨b, 4, none⟩ v4).setCell ⟨b, 5, none⟩ v5).heap[b]? = some (.cells #[v0, v1, v2, v3, v4, v5, .int .i64 0, .int .i64 0, .int .i64 0, .int .i64 0] 26 (0, 0)) := heap_setCell_same _ b 5 _ 26 v5 h5
  have h7 : (((((((w.setCell ⟨b, 0, none⟩ v0).setCell ⟨b, 1, none⟩ v1).setCell ⟨b, 2, none⟩ v2).setCell ⟨b, 3, none⟩ v3).setCell ⟨b, 4, none⟩ v4).setCell ⟨b, 5, none⟩ v5).setCell ⟨b, 6, none⟩ v6).heap[b]? = some (.cells #[v0, v1, v2, v3, v4, v5, v6, .int .i64 0, .int .i64 0, .int .i64 0] 26 (0, 0)) := heap_setCell_same _ b 6 _ 26 v6 h6
  have h8 : ((((((((w.setCell ⟨b, 0, none⟩ v0).setCell ⟨b, 1, none⟩ v1).setCell ⟨b, 2, none⟩ v2).setCell ⟨b, 3, none⟩ v3).setCell ⟨b, 4, none⟩ v4).setCell ⟨b, 5, none⟩ v5).setCell ⟨b, 6, none⟩ v6).setCell ⟨b, 7, none⟩ v7).heap[b]? = some (.cells #[v0, v1, v2, v3, v4, v5, v6, v7, .int .i64 0, .int .i64 0] 26 (0, 0)) := heap_setCell_same _ b 7 _ 26 v7 h7
  have h9 : (((((((((w.setCell ⟨b, 0, none⟩ v0).setCell ⟨b, 1, none⟩ v1).setCell ⟨b, 2, none⟩ v2).setCell ⟨b, 3, none⟩ v3).setCell ⟨b, 4, none⟩ v4).setCell ⟨b, 5, none⟩ v5).setCell ⟨b, 6, none⟩ v6).setCell ⟨b, 7, none⟩ v7).setCell ⟨b, 8, none⟩ v8).heap[b]? = some (.cells #[v0, v1, v2, v3, v4, v5, v6, v7, v8, .int .i64 0] 26 (0, 0)) := heap_setCell_same _ b 8 _ 26 v8 h8
  have h10 : ((((((((((w.setCell ⟨b, 0, none⟩ v0).setCell ⟨b, 1, none⟩ v1).setCell ⟨b, 2, none⟩ v2).setCell ⟨b, 3, none⟩ v3).setCell ⟨b, 4, none⟩ v4).setCell ⟨b, 5, none⟩ v5).setCell ⟨b, 6, none⟩ v6).setCell ⟨b, 7, none⟩ v7).setCell ⟨b, 8, none⟩ v8).setCell ⟨b, 9, none⟩ v9).heap[b]? = some (.cells #[v0, v1, v2, v3, v4, v5, v6, v7, v8, v9] 26 (0, 0)) := heap_setCell_same _ b 9 _ 26 v9 h9
  exact h10
theorem outs_set10 (w : World) (b : Nat) (v0 v1 v2 v3 v4 v5 v6 v7 v8 v9 : Value) : OutsP (fun k => k = b) w ((((((((((w.setCell ⟨b, 0, none⟩ v0).setCell ⟨b, 1, none⟩ v1).setCell ⟨b, 2, none⟩ v2).setCell ⟨b, 3, none⟩ v3).setCell ⟨b, 4, none⟩ v4).setCell ⟨b, 5, none⟩ v5).setCell ⟨b, 6, none⟩ v6).setCell ⟨b, 7, none⟩ v7).setCell ⟨b, 8, none⟩ v8).setCell ⟨b, 9, none⟩ v9).drew := by
  have o0 := OutsP.refl (fun k => k = b) w
  have o1 := OutsP.setCell (p := ⟨b, 0, none⟩) o0 (Or.inl rfl) v0
  have o2 := OutsP.setCell (p := ⟨b, 1, none⟩) o1 (Or.inl rfl) v1
  have o3 := OutsP.setCell (p := ⟨b, 2, none⟩) o2 (Or.inl rfl) v2
  have o4 := OutsP.setCell (p := ⟨b, 3, none⟩) o3 (Or.inl rfl) v3
  have o5 := OutsP.setCell (p := ⟨b, 4, none⟩) o4 (Or.inl rfl) v4
  have o6 := OutsP.setCell (p := ⟨b, 5, none⟩) o5 (Or.inl rfl) v5
  have o7 := OutsP.setCell (p := ⟨b, 6, none⟩) o6 (Or.inl rfl) v6
  have o8 := OutsP.setCell (p := ⟨b, 7, none⟩) o7 (Or.inl rfl) v7
  have o9 := OutsP.setCell (p := ⟨b, 8, none⟩) o8 (Or.inl rfl) v8
  have o10 := OutsP.setCell (p := ⟨b, 9, none⟩) o9 (Or.inl rfl) v9
  exact o10.drew
set_option maxRecDepth 100000 in
set_option maxHeartbeats 64000000 in
theorem rwalk_fit (x : PrD) (vm : Value) (more : List Int) (w : World) (hx : x.rd w) (hsm : ∀ t ∈ x.locs, t.sm) (hxz : x.locs.length ≤ 1048576) (hm : Sl w 1 iEnc vm more) (hmz : more.length ≤ 1048576) (hfit : fitB x more = true) :
    Calls Try.prog 5 #[x.val, vm] w (WalkR x more w) := by
  have HX := Lib.hid hx; have HSM := Lib.hid hsm; have HFIT := Lib.hid hfit; have HMS := Lib.hid hm
  obtain ⟨xn, xp, xf, xi, xl, x5, x6, x7, x8, x9, xfr, xin, xlo⟩ := x
  obtain ⟨fa, fc, h1, -, -⟩ := sl_open hx.fv
  obtain ⟨ia, ic, h2, -, -⟩ := sl_open hx.iv
  obtain ⟨la, lc, h3, ml, HL⟩ := sl_open hx.lv
  simp only at h1 h2 h3 HL ml hxz
  subst h1; subst h2; subst h3
  obtain ⟨am, cm, rfl, mm, HM⟩ := sl_open hm
  have hf := hfit
  unfold fitB at hf
  simp only [Bool.and_eq_true] at hf
  obtain ⟨⟨⟨hi5, hi6⟩, him⟩, hil⟩ := hf
  have HI5 := Lib.hid hi5; have HI6 := Lib.hid hi6; have HIM := Lib.hid him; have HIL := Lib.hid hil
  clear hx hsm hm hfit hi5 hi6 him hil
  generalize hPP : WalkR ⟨xn, xp, .slice fa xfr.length fc, .slice ia xin.length ic, .slice la xlo.length lc, x5, x6, x7, x8, x9, xfr, xin, xlo⟩ more w = PP
  have HPP := Lib.hid hPP; clear hPP
  unfold PrD.val
  simp only
  obtain ⟨q5, q5'⟩ := inF_iff.1 HI5.out
  obtain ⟨q6, q6'⟩ := inF_iff.1 HI6.out
  go_enter Try.func5, Try.ntmps5
  go_wp2_with fail
  generalize hW1 : World.alloc (World.alloc w _) _ = W1
  have HG : Hid (Below w.heap.size w W1) := by rw [← hW1]; exact ((Below.refl _ _).alloc (Nat.le_refl _) _).alloc (by simp) _
  have HBX : Hid (W1.heap[w.heap.size]? = some (.cells #[.string xn, .int .i64 xp, .slice fa xfr.length fc, .slice ia xin.length ic, .slice la xlo.length lc, .int .i64 x5, .int .i64 x6, .int .i64 x7, .int .i64 x8, .int .i64 x9] 26 (0, 0))) := by rw [← hW1]; exact heap_two_a _ _ _
  have HBZ : Hid (W1.heap[w.heap.size + 1]? = some (.cells ZARR 26 (0, 0))) := by rw [← hW1]; exact heap_two_b _ _ _
  have hz1 : W1.heap.size = w.heap.size + 2 := by rw [← hW1]; simp [go_sem]
  have hzz : w.heap.size ≤ W1.heap.size := by omega
  clear hW1
  have hfits := fits_any ⟨xn, xp, .slice fa xfr.length fc, .slice ia xin.length ic, .slice la xlo.length lc, x5, x6, x7, x8, x9, xfr, xin, xlo⟩ _ more W1 (HX.out.keep HG.out) HSM.out (HMS.out.keep HG.out)
  rw [HFIT.out] at hfits
  refine hfits.mono ?_
  rintro e w2 ⟨rfl, hw2⟩
  clear hfits
  have HB2 := Lib.hid hw2
  have hz2 := hw2.size
  have hb0 : w.heap.size < w2.heap.size := by omega
  have HBX2 : Hid (w2.heap[w.heap.size]? = some (.cells #[.string xn, .int .i64 xp, .slice fa xfr.length fc, .slice ia xin.length ic, .slice la xlo.length lc, .int .i64 x5, .int .i64 x6, .int .i64 x7, .int .i64 x8, .int .i64 x9] 26 (0, 0))) := (hw2.block _ (by omega)).trans HBX.out
  have HBZ2 : Hid (w2.heap[w.heap.size + 1]? = some (.cells ZARR 26 (0, 0))) := (hw2.block _ (by omega)).trans HBZ.out
  have HW2 : Hid (Below w.heap.size w w2) := HG.out.trans (hw2.mono (by omega))
  clear hw2 HBX HBZ HB2
  go_wp2_with fail
  generalize hW3 : World.alloc w2 _ = W3
  have HG3 : Hid (Below w2.heap.size w2 W3) := by rw [← hW3]; exact (Below.refl _ _).alloc (Nat.le_refl _) _
  obtain ⟨gb, HGB⟩ : ∃ gb, Hid (gb = w2.heap.size) := ⟨_, rfl⟩
  have HGR3 : Hid (Gr W3 w2.heap.size gb (.slice none 0 0) (.slice none 0 0) ([], [])) := by
    refine ⟨by rw [← hW3, HGB.out]; exact heap_new' _ _, ow_nil _ _ _ _ _, ow_nil _ _ _ _ _, fun k hk => by simp [Value.ownBlock] at hk⟩
  clear hW3
  rw [← HGB.out]
  have hgbz : w2.heap.size ≤ gb := by have := HGB.out; omega
  obtain ⟨NX, HNX⟩ : ∃ NX, Hid (NX = nextF ⟨xn, xp, .slice fa xfr.length fc, .slice ia xin.length ic, .slice la xlo.length lc, x5, x6, x7, x8, x9, xfr, xin, xlo⟩) := ⟨_, rfl⟩
  clear HGB
  as_aux_lemma =>
    go_loopw [9] (fun i wr => ∃ (k : Nat) (nv : Value), k ≤ xlo.length ∧ i = .int .i64 k ∧ Hid (Gr wr w2.heap.size gb nv (.slice none 0 0) (List.replicate k (-1), [])) ∧ Hid (Below w2.heap.size w2 wr)) (fun i _ => xlo.length - (intOf i).toNat)
    case atStart => exact ⟨0, .slice none 0 0, Nat.zero_le _, rfl, HGR3.out, HG3.out⟩
    case round =>
      as_aux_lemma =>
        obtain ⟨k, nv, hk, rfl, hgr, hB⟩ := hrel
        have hsz := hB.out.size
        have hbx := (hB.out.block w.heap.size hb0).trans HBX2.out
        have s4 : wr.cell? ⟨w.heap.size, 4, none⟩ = some (.slice la xlo.length lc) := by rw [cell_of_row wr (w.heap.size) 4 _ _ _ hbx]; rfl
        have s5 : wr.cell? ⟨w.heap.size, 5, none⟩ = some (.int .i64 x5) := by rw [cell_of_row wr (w.heap.size) 5 _ _ _ hbx]; rfl
        have s6 : wr.cell? ⟨w.heap.size, 6, none⟩ = some (.int .i64 x6) := by rw [cell_of_row wr (w.heap.size) 6 _ _ _ hbx]; rfl
        have hbw : w.heap.size < wr.heap.size := by omega
        clear hbx
        have g0 : wr.cell? ⟨gb, 0, none⟩ = some nv := by rw [cell_of_row wr gb 0 _ _ _ hgr.out.g]; rfl
        have hgb := lt_of_block hgr.out.g
        by_cases hlt : k < xlo.length
        · obtain ⟨L, HLE⟩ : ∃ L, Hid (L = List.replicate k (-1 : Int)) := ⟨_, rfl⟩
          have hLz : L.length ≤ 1048576 := by rw [HLE.out]; simp; omega
          rw [← HLE.out] at hgr
          obtain ⟨an, cn, rfl⟩ := hgr.out.n.slice
          go_wp2_with (at_builtin; go_must (refine wpList_push elt27 rfl _ _ rfl w2.heap.size iEnc (.slice an L.length cn) L rfl (hgr.out.n.alloc _) wr.heap.size (-1 : Int) _ rfl (heap_new' _ _) rfl (by intro u hu; simp at hu; rw [hu]; rfl) (by omega) (by simp; omega) ?c4))
          case c4 =>
            intro g cap w5 h1 h2 h3
            have hno : (Value.slice an L.length cn).ownBlock ≠ some gb := ow_ne hgr.out.n hgr.out.g
            have hg5 : w5.heap[gb]? = some (.cells #[.slice an L.length cn, .slice none 0 0] 51 (0, 0)) := (h2.block gb (by simp; omega) (fun e => hno e.symm)).trans ((Below.heap_alloc _ _ _ hgb).trans hgr.out.g)
            have f1 : w5.cell? ⟨gb, 0, none⟩ = some (.slice an L.length cn) := by rw [cell_of_row w5 gb 0 _ _ _ hg5]; rfl
            have f2 : w5.frozen? ⟨gb, 0, none⟩ = false := frozen_of_row w5 gb 0 _ _ hg5
            have hgg : g ≠ gb := fun e => by
              subst e
              rcases h3 with h | h
              · exact hno h
              · omega
            have HGR5 : Hid (Gr (w5.setCell ⟨gb, 0, none⟩ (.slice (some ⟨g, 0, none⟩) (L.length + 1) cap)) w2.heap.size gb (.slice (some ⟨g, 0, none⟩) (L.length + 1) cap) (.slice none 0 0) (List.replicate (k + 1) (-1), [])) := by
              refine ⟨by rw [heap_setCell_same w5 gb 0 _ 51 _ hg5]; rfl, ?_, ow_nil _ _ _ _ _, fun k hk => by simp [Value.ownBlock]⟩
              have e : List.replicate (k + 1) (-1 : Int) = List.replicate k (-1) ++ [-1] := by rw [List.replicate_succ']
              rw [e, ← HLE.out]
              have h4 := ownsRow_setCell_other h1 (a := ⟨gb, 0, none⟩) (by simpa [Value.ownBlock] using hgg) (.slice (some ⟨g, 0, none⟩) (L.length + 1) cap)
              exact h4
            have HB5 : Hid (Below w2.heap.size w2 (w5.setCell ⟨gb, 0, none⟩ (.slice (some ⟨g, 0, none⟩) (L.length + 1) cap))) := ((hB.out.alloc hsz _).grown h2 (by simp; omega) (fun q hq => (hgr.out.n.lt q hq).1)).setCell (p := ⟨gb, 0, none⟩) hgbz _
            clear h1 h2 h3
            go_wp2
            go_roundw
            case rel => exact ⟨k + 1, _, by omega, by go_num, HGR5, HB5⟩
            case measure => simp [intOf]; omega
        · obtain rfl : k = xlo.length := by omega
          obtain ⟨wo, rfl⟩ : ∃ wo : World, wo = wr := ⟨_, rfl⟩
          have hST0 : StI xlo.length (List.replicate xlo.length (-1), []) := ⟨by simp, by simp, fun x hx => (by simp at hx), fun x hx => (by obtain ⟨_, rfl⟩ := List.mem_replicate.1 hx; omega)⟩
          have HM0 := Lib.hid (MR.start hgr.out hST0 hgbz)
          clear hST0
          go_wp2_with fail
          refine (meet_any x5 (List.replicate xlo.length (-1), []) w2.heap.size gb _ _ wo hgr.out (by simpa using HI5.out) (by simp) hsz).mono ?_
          rintro e w4 hme
          obtain ⟨rfl, ov4, hm4⟩ := HM0.out.meet HI5.out hme
          have HM4 := Lib.hid hm4
          have HB4 : Hid (Below w2.heap.size w2 w4) := hB.out.trans (HM4.out.below hsz)
          clear hme hm4 HM0 hgr s4 s5 s6 g0
          have HT0 : Hid (goA NX (xlo.length + 1) (x5 :: more) (0, (List.replicate xlo.length (-1), [])) = goA NX (xlo.length + 1) more (scan NX (xlo.length + 1) 0 (mt x5 (List.replicate xlo.length (-1), [])))) := rfl
          obtain ⟨T, HT⟩ : ∃ T, Hid (goA NX (xlo.length + 1) (x5 :: more) (0, (List.replicate xlo.length (-1), [])) = T) := ⟨_, rfl⟩
          rw [HT.out] at HT0
          generalize mt x5 (List.replicate xlo.length (-1), []) = s1 at *
          go_wp2_with fail
          obtain ⟨nv4, hnv4⟩ : ∃ v, v = nv := ⟨_, rfl⟩
          rw [← hnv4] at HM4
          clear hnv4
          as_aux_lemma =>
            go_loopw [10, 11] (fun dd kk wr => ∃ (k d : Nat) (s : St) (ov : Value), dd = .int .i64 d ∧ kk = .int .i64 k ∧ k ≤ more.length + 1 ∧ Hid ((k ≤ more.length ∧ goA NX (xlo.length + 1) (more.drop k) (scan NX (xlo.length + 1) d s) = T) ∨ (k = more.length + 1 ∧ (d, s) = T)) ∧ Hid (Gr wr w2.heap.size gb nv4 ov s) ∧ Hid (StI xlo.length s) ∧ Hid (Below w2.heap.size w2 wr)) (fun _ kk _ => more.length + 1 - (intOf kk).toNat)
            case atStart => exact ⟨0, 0, s1, ov4, rfl, rfl, Nat.zero_le _, .inl ⟨Nat.zero_le _, by rw [List.drop_zero]; exact HT0.out.symm⟩, HM4.out.gr, HM4.out.st, HB4⟩
            case round =>
              as_aux_lemma =>
                clear hsz hbw hgb hlt hk
                obtain ⟨k, d, s, ov, rfl, rfl, hk, hT, hgr, hst, hB⟩ := hrel
                by_cases hle : k ≤ more.length
                · have HT2 : Hid (goA NX (xlo.length + 1) (more.drop k) (scan NX (xlo.length + 1) d s) = T) := by
                    rcases hT.out with h | h
                    · exact h.2
                    · omega
                  obtain ⟨R, HR⟩ : ∃ R, Hid (scan NX (xlo.length + 1) d s = R) := ⟨_, rfl⟩
                  rw [HR.out] at HT2
                  clear hT
                  obtain ⟨wo2, rfl⟩ : ∃ wo2 : World, wo2 = wr := ⟨_, rfl⟩
                  have hle1 : (k : Int) ≤ (more.length : Int) := by omega
                  go_wp2_with fail
                  as_aux_lemma =>
                    go_loopw [10] (fun dd wr => ∃ (f d : Nat) (s : St) (ov : Value), dd = .int .i64 d ∧ xlo.length + 1 ≤ f + d ∧ Hid (scan NX f d s = R) ∧ Hid (Gr wr w2.heap.size gb nv4 ov s) ∧ Hid (StI xlo.length s) ∧ Hid (Below w2.heap.size w2 wr)) (fun dd _ => xlo.length - (intOf dd).toNat)
                    case atStart => exact ⟨xlo.length + 1, d, s, ov, rfl, by omega, HR, hgr, hst, hB⟩
                    case round =>
                      as_aux_lemma =>
                        clear HR hgr hst hB
                        obtain ⟨f, d, s, ov, rfl, hfd, HSC, hgr, hst, hB⟩ := hrel
                        have hsz := hB.out.size
                        have hbw : w.heap.size < wr.heap.size := by omega
                        have hbx := (hB.out.block w.heap.size hb0).trans HBX2.out
                        have s4 : wr.cell? ⟨w.heap.size, 4, none⟩ = some (.slice la xlo.length lc) := by rw [cell_of_row wr (w.heap.size) 4 _ _ _ hbx]; rfl
                        have s5 : wr.cell? ⟨w.heap.size, 5, none⟩ = some (.int .i64 x5) := by rw [cell_of_row wr (w.heap.size) 5 _ _ _ hbx]; rfl
                        have s6 : wr.cell? ⟨w.heap.size, 6, none⟩ = some (.int .i64 x6) := by rw [cell_of_row wr (w.heap.size) 6 _ _ _ hbx]; rfl
                        clear hbx
                        have g1 : wr.cell? ⟨gb, 1, none⟩ = some ov := by rw [cell_of_row wr gb 1 _ _ _ hgr.out.g]; rfl
                        have hgb := lt_of_block hgr.out.g
                        have hsle := hst.out.le
                        have HOV := Lib.hid (sl_of_ow hgr.out.o)
                        obtain ⟨ao, co, rfl, mo, HOO⟩ := sl_open HOV.out
                        by_cases hds : d < s.2.length
                        · obtain ⟨f, rfl⟩ : ∃ f', f = f' + 1 := ⟨f - 1, by omega⟩
                          have HSC2 := Lib.hid (HSC.out)
                          rw [scan_go NX f d s hds] at HSC2
                          obtain ⟨bo, oo, rfl, hbo, hco⟩ := HOO.out (by omega)
                          have p0 := hco d hds 0 (by omega)
                          simp only [iEnc, Nat.mul_one, Nat.add_zero] at p0
                          have hpin := hst.out.ord (s.2.getD d default) (mem_getD hds)
                          clear hco HSC
                          generalize s.2.getD d default = pp at *
                          obtain ⟨hp0, hp1⟩ := inF_iff.1 hpin
                          obtain ⟨p, rfl⟩ : ∃ q : Nat, pp = (q : Int) := ⟨pp.toNat, by omega⟩
                          have hpn : p < xlo.length := by omega
                          obtain ⟨ba, oa, rfl, hba, hca⟩ := HL.out (by omega)
                          have HBw : Hid (Below w.heap.size w wr) := HW2.out.trans (hB.out.mono (by omega))
                          have hba2 : ba < wr.heap.size := by have := HBw.out.size; omega
                          have hca := fun j hj => (HBw.out.cell (p := ⟨ba, oa + p * 7 + j, none⟩) hba).trans (hca p hpn j hj)
                          have hrd := HX.out.locs (xlo.getD p default) (mem_getD hpn)
                          have hsm := HSM.out (xlo.getD p default) (mem_getD hpn)
                          have hlo : loB xlo.length (xlo.getD p default) = true := List.all_eq_true.1 HIL.out _ (mem_getD hpn)
                          have hnx : NX (p : Int) = tosL (lsOf (xlo.getD p default)) := by rw [HNX.out]; rfl
                          rw [hnx] at HSC2
                          clear hnx
                          generalize xlo.getD p default = y at *
                          obtain ⟨yo, ye, y2, y3, y4, y5, y6, yl, ys⟩ := y
                          have HRD := Lib.hid hrd; have HSMM := Lib.hid hsm
                          obtain ⟨a4, q4, ho1, -, -⟩ := sl_open hrd.ov
                          obtain ⟨a5, q5, ho2, -, -⟩ := sl_open hrd.ev
                          simp only at ho1 ho2
                          subst ho1; subst ho2
                          clear hrd hsm
                          have d0 := hca 0 (by omega); have d1 := hca 1 (by omega); have d2 := hca 2 (by omega); have d3 := hca 3 (by omega); have d4 := hca 4 (by omega); have d5 := hca 5 (by omega); have d6 := hca 6 (by omega)
                          clear hca
                          simp only [LoD.enc, Nat.add_zero] at d0 d1 d2 d3 d4 d5 d6
                          have hdk0 : (0 : Int) ≤ (d : Int) := by omega
                          have hdk1 : (d : Int) < (s.2.length : Int) := by omega
                          have hpp1 : (p : Int) < (xlo.length : Int) := by omega
                          go_wp2_with fail
                          go_still_tail 11, (by kernel_rfl)
                          go_wp2_with fail
                          refine (lists_any ⟨.slice a4 yl.length q4, .slice a5 ys.length q5, y2, y3, y4, y5, y6, yl, ys⟩ wr.drew (HRD.out.keep HBw.out.drew) HSMM.out.en HSMM.out.ez).mono ?_
                          rintro e w5 ⟨v5, rfl, ho5, hw5⟩
                          all_goals
                            have HB5 : Hid (Below wr.heap.size wr w5) := (below_drew wr).trans hw5
                            have HBB5 : Hid (Below w2.heap.size w2 w5) := hB.out.trans (HB5.out.mono hsz)
                            have HSL := Lib.hid (sl_of_ow ho5)
                            have HOL : Hid (∀ k, v5.ownBlock = some k → wr.heap.size ≤ k) := fun k hk => (ho5.lt k hk).1
                            have HM5 := Lib.hid (MR.start (hgr.out.keep HB5.out) hst.out hgbz)
                            have HMEM : Hid (∀ e ∈ lsOf ⟨.slice a4 yl.length q4, .slice a5 ys.length q5, y2, y3, y4, y5, y6, yl, ys⟩, Sl w 9 TrD.enc e.v e.l ∧ toB xlo.length e.l = true) := fun e he => by
                              unfold loB at hlo
                              obtain ⟨h1, h2⟩ := Bool.and_eq_true_iff.1 hlo
                              rcases List.mem_cons.1 he with rfl | h
                              · exact ⟨HRD.out.ov, h1⟩
                              · exact ⟨(HRD.out.esc e h).1, List.all_eq_true.1 h2 e h⟩
                            have HLSE : Hid (Sl w5 1 EsD.enc v5 (lsOf ⟨.slice a4 yl.length q4, .slice a5 ys.length q5, y2, y3, y4, y5, y6, yl, ys⟩)) := HSL.out
                            have hz5 := HBB5.out.size
                            clear hw5 ho5 d0 d1 d2 d3 d4 d5 d6 s4 s5 s6 g1 p0 HSL hlo
                            generalize lsOf ⟨.slice a4 yl.length q4, .slice a5 ys.length q5, y2, y3, y4, y5, y6, yl, ys⟩ = LS at *
                            obtain ⟨a9, q9, rfl, mls, HLS⟩ := sl_open HLSE.out
                            obtain ⟨wo3, rfl⟩ : ∃ wo3 : World, wo3 = wr := ⟨_, rfl⟩
                            obtain ⟨ov5, HOV5⟩ : ∃ v, Hid (v = Value.slice (some ⟨bo, oo, none⟩) s.2.length co) := ⟨_, rfl⟩
                            rw [← HOV5.out] at HM5
                            go_wp2_with fail
                            as_aux_lemma =>
                              go_loopw [13] (fun ii wr => ∃ (j : Nat) (s4 : St) (ov : Value), j ≤ LS.length ∧ ii = .int .i64 j ∧ Hid (s4 = foldM (tosL (LS.take j)) s) ∧ Hid (MR xlo.length w5 wr w2.heap.size gb nv4 ov5 ov s4)) (fun ii _ => LS.length - (intOf ii).toNat)
                              case atStart => exact ⟨0, s, _, Nat.zero_le _, rfl, rfl, by rw [HOV5.out] at HM5 ⊢; exact HM5⟩
                              case round =>
                                as_aux_lemma =>
                                  obtain ⟨j, s4, ov, hj, rfl, hs4, hmr⟩ := hrel
                                  have hsz4 := hmr.out.out.size
                                  have HNB : Hid (∀ k, (Value.slice a9 LS.length q9).ownBlock = some k → ¬ (k = gb ∨ nv4.ownBlock = some k ∨ ov5.ownBlock = some k)) := fun k hk h => by
                                    have h1 := HOL.out k hk
                                    rcases h with rfl | h | h
                                    · omega
                                    · have := (hgr.out.n.lt k h).2; omega
                                    · rw [HOV5.out] at h; have := (hgr.out.o.lt k h).2; omega
                                  by_cases hjl : j < LS.length
                                  · obtain ⟨be, oe, rfl, hbe, hce⟩ := HLS.out (by omega)
                                    have hbee := hce j hjl 0 (by omega)
                                    have hmj := HMEM.out (LS.getD j default) (mem_getD hjl)
                                    have HTS := Lib.hid (tosL_snoc LS j hjl)
                                    clear hce
                                    have HNB2 : Hid (¬ (be = gb ∨ nv4.ownBlock = some be ∨ ov5.ownBlock = some be)) := HNB.out be rfl
                                    generalize LS.getD j default = z at *
                                    obtain ⟨zv, zl⟩ := z
                                    simp only [EsD.enc, Nat.mul_one, Nat.add_zero] at hbee hmj HTS
                                    obtain ⟨az, qz, rfl, mzl, HZ⟩ := sl_open hmj.1
                                    have HTOB := Lib.hid hmj.2
                                    have HBE := Lib.hid hbee
                                    clear hmj hbee
                                    have f0 := (World.cell?_of_block (a := ⟨be, oe + j, none⟩) (hmr.out.out.block be hbe HNB2.out)).trans HBE.out
                                    have hbe2 : be < wr.heap.size := by omega
                                    obtain ⟨wo4, rfl⟩ : ∃ wo4 : World, wo4 = wr := ⟨_, rfl⟩
                                    have hj0 : (0 : Int) ≤ (j : Int) := by omega
                                    go_wp2_with fail
                                    as_aux_lemma =>
                                      go_loopw [14] (fun ii wr => ∃ (m : Nat) (s5 : St) (ov : Value), m ≤ zl.length ∧ ii = .int .i64 m ∧ Hid (s5 = foldM ((zl.take m).map TrD.to) s4) ∧ Hid (MR xlo.length w5 wr w2.heap.size gb nv4 ov5 ov s5)) (fun ii _ => zl.length - (intOf ii).toNat)
                                      case atStart => exact ⟨0, s4, ov, Nat.zero_le _, rfl, rfl, hmr⟩
                                      case round =>
                                        as_aux_lemma =>
                                          obtain ⟨m, s5, ovm, hm, rfl, hs5, hmm⟩ := hrel
                                          have hszm := hmm.out.out.size
                                          have g0 := (World.cell?_of_block (a := ⟨be, oe + j, none⟩) (hmm.out.out.block be hbe HNB2.out)).trans HBE.out
                                          have hbe3 : be < wr.heap.size := by omega
                                          by_cases hml : m < zl.length
                                          · obtain ⟨bt, ot, rfl, hbt, hct⟩ := HZ.out (by omega)
                                            have HB6 : Hid (Below w.heap.size w wr) := (HW2.out.trans (HBB5.out.mono (by omega))).trans ((hmm.out.below hz5).mono (by omega))
                                            have t7 := (HB6.out.cell (p := ⟨bt, ot + m * 9 + 7, none⟩) hbt).trans (hct m hml 7 (by omega))
                                            have hbt2 : bt < wr.heap.size := by have := HB6.out.size; omega
                                            have hto := List.all_eq_true.1 HTOB.out (zl.getD m default) (mem_getD hml)
                                            have HSN : Hid ((zl.take (m + 1)).map TrD.to = (zl.take m).map TrD.to ++ [(zl.getD m default).to]) := map_take_snoc TrD.to zl m hml
                                            clear hct
                                            simp only [TrD.enc] at t7
                                            generalize zl.getD m default = tt at *
                                            generalize tt.to = y at *
                                            have HTO := Lib.hid hto
                                            clear hto
                                            have hm0 : (0 : Int) ≤ (m : Int) := by omega
                                            have hwz : w2.heap.size ≤ wr.heap.size := by omega
                                            go_wp2_with fail
                                            refine (meet_any y s5 w2.heap.size gb _ _ wr hmm.out.gr (by rw [hmm.out.st.len]; exact HTO.out) (by have := hmm.out.st.le; omega) hwz).mono ?_
                                            rintro e w7 hme
                                            obtain ⟨rfl, ov7, hm7⟩ := hmm.out.meet HTO.out hme
                                            have HM7 := Lib.hid hm7
                                            have HF7 : Hid (mt y s5 = foldM ((zl.take (m + 1)).map TrD.to) s4) := by
                                              unfold Hid
                                              rw [HSN.out, foldM_app, ← hs5.out]
                                              rfl
                                            clear hme hm7
                                            go_wp2
                                            go_roundw
                                            case rel => exact ⟨m + 1, mt y s5, ov7, by omega, by go_num, HF7, HM7⟩
                                            case measure => simp [intOf]; omega
                                          · obtain rfl : m = zl.length := by omega
                                            have HF8 : Hid (s5 = foldM (tosL (LS.take (j + 1))) s) := by
                                              unfold Hid
                                              rw [HTS.out, foldM_app, ← hs4.out, hs5.out, List.take_length]
                                            go_wp2
                                            go_roundw
                                            case rel => exact ⟨j + 1, s5, ovm, by omega, by go_num, HF8, hmm⟩
                                            case measure => simp [intOf]; omega
                                  · obtain rfl : j = LS.length := by omega
                                    have HF9 : Hid (scan NX f (d + 1) s4 = R) := by
                                      have h1 := hs4.out
                                      rw [List.take_length] at h1
                                      rw [h1]
                                      exact HSC2.out
                                    have HB9 : Hid (Below w2.heap.size w2 wr) := HBB5.out.trans (hmr.out.below hz5)
                                    go_wp2
                                    go_roundw
                                    case rel => exact ⟨f, d + 1, s4, ov, by go_num, by omega, HF9, hmr.out.gr, hmr.out.st, HB9⟩
                                    case measure => simp [intOf]; omega
                        · have hRR := HSC.out
                          rw [scan_stop NX f d s hds] at hRR
                          have HRR := Lib.hid hRR.symm
                          clear hRR HSC
                          by_cases hkl : k < more.length
                          · obtain ⟨bm, om, rfl, hbm, hcm⟩ := HM.out (by omega)
                            have HBw : Hid (Below w.heap.size w wr) := HW2.out.trans (hB.out.mono (by omega))
                            have m0 := (HBw.out.cell (p := ⟨bm, om + k * 1 + 0, none⟩) hbm).trans (hcm k hkl 0 (by omega))
                            simp only [iEnc, Nat.mul_one, Nat.add_zero] at m0
                            have hbm2 : bm < wr.heap.size := by have := HBw.out.size; omega
                            have HDR := Lib.hid (drop_getD more k hkl)
                            have hin := List.all_eq_true.1 HIM.out (more.getD k default) (mem_getD hkl)
                            clear hcm
                            generalize more.getD k default = y at *
                            have HIN := Lib.hid hin
                            clear hin
                            have HMR := Lib.hid (MR.start hgr.out hst.out hgbz)
                            go_wp2_with fail
                            refine (meet_any y s w2.heap.size gb _ _ wr hgr.out (by rw [hst.out.len]; exact HIN.out) (by omega) hsz).mono ?_
                            rintro e w7 hme
                            obtain ⟨rfl, ov7, hm7⟩ := HMR.out.meet HIN.out hme
                            have HM7 := Lib.hid hm7
                            have HT7 : Hid (goA NX (xlo.length + 1) (more.drop (k + 1)) (scan NX (xlo.length + 1) d (mt y s)) = T) := by
                              have h1 := HT2.out
                              rw [HDR.out, HRR.out] at h1
                              exact h1
                            have HB7 : Hid (Below w2.heap.size w2 w7) := hB.out.trans (HM7.out.below hsz)
                            clear hme hm7
                            go_wp2
                            go_roundw
                            case rel => exact ⟨k + 1, d, mt y s, ov7, rfl, by go_num, by omega, .inl ⟨by omega, HT7.out⟩, HM7.out.gr, HM7.out.st, HB7⟩
                            case measure => simp [intOf]; omega
                          · obtain rfl : k = more.length := by omega
                            have HT7 : Hid ((d, s) = T) := by
                              have h1 := HT2.out
                              rw [List.drop_length, HRR.out] at h1
                              exact h1
                            go_wp2
                            go_roundw
                            case rel => exact ⟨more.length + 1, d, s, _, rfl, by go_num, by omega, .inr ⟨rfl, HT7.out⟩, hgr, hst, hB⟩
                            case measure => simp [intOf]
                · have hTT : (d, s) = T := by
                    rcases hT.out with h | h
                    · omega
                    · exact h.2
                  have HTT := Lib.hid hTT.symm
                  clear hTT hT
                  have hsz := hB.out.size
                  have hbw : w.heap.size < wr.heap.size := by omega
                  have hbx := (hB.out.block w.heap.size hb0).trans HBX2.out
                  have s4 : wr.cell? ⟨w.heap.size, 4, none⟩ = some (.slice la xlo.length lc) := by rw [cell_of_row wr (w.heap.size) 4 _ _ _ hbx]; rfl
                  have s5 : wr.cell? ⟨w.heap.size, 5, none⟩ = some (.int .i64 x5) := by rw [cell_of_row wr (w.heap.size) 5 _ _ _ hbx]; rfl
                  have s6 : wr.cell? ⟨w.heap.size, 6, none⟩ = some (.int .i64 x6) := by rw [cell_of_row wr (w.heap.size) 6 _ _ _ hbx]; rfl
                  clear hbx
                  have hle2 : ¬ (k : Int) ≤ (more.length : Int) := by omega
                  have HMR := Lib.hid (MR.start hgr.out hst.out hgbz)
                  obtain ⟨wo2, rfl⟩ : ∃ wo2 : World, wo2 = wr := ⟨_, rfl⟩
                  go_wp2_with fail
                  refine (meet_any x6 s w2.heap.size gb _ _ wo2 hgr.out (by rw [hst.out.len]; exact HI6.out) (by have := hst.out.le; omega) hsz).mono ?_
                  rintro e w7 hme
                  obtain ⟨rfl, ov7, hm7⟩ := HMR.out.meet HI6.out hme
                  have HM7 := Lib.hid hm7
                  have HB7 : Hid (Below w2.heap.size w2 w7) := hB.out.trans (HM7.out.below hsz)
                  have HSW : Hid (mt x6 s = stW ⟨xn, xp, .slice fa xfr.length fc, .slice ia xin.length ic, .slice la xlo.length lc, x5, x6, x7, x8, x9, xfr, xin, xlo⟩ more) := by
                    unfold Hid stW
                    rw [← HNX.out]
                    show mt x6 s = mt x6 (goA NX (xlo.length + 1) (x5 :: more) (0, (List.replicate xlo.length (-1), []))).2
                    rw [HT.out, HTT.out]
                  clear hme hm7 HMR hgr hst
                  generalize mt x6 s = sF at *
                  have hz7 := HB7.out.size
                  have hbw7 : w.heap.size < w7.heap.size := by omega
                  have hbx7 := (HB7.out.block w.heap.size hb0).trans HBX2.out
                  have s0 : w7.cell? ⟨w.heap.size, 0, none⟩ = some (.string xn) := by rw [cell_of_row w7 (w.heap.size) 0 _ _ _ hbx7]; rfl
                  have s1 : w7.cell? ⟨w.heap.size, 1, none⟩ = some (.int .i64 xp) := by rw [cell_of_row w7 (w.heap.size) 1 _ _ _ hbx7]; rfl
                  have s2 : w7.cell? ⟨w.heap.size, 2, none⟩ = some (.slice fa xfr.length fc) := by rw [cell_of_row w7 (w.heap.size) 2 _ _ _ hbx7]; rfl
                  have s3 : w7.cell? ⟨w.heap.size, 3, none⟩ = some (.slice ia xin.length ic) := by rw [cell_of_row w7 (w.heap.size) 3 _ _ _ hbx7]; rfl
                  have s4 : w7.cell? ⟨w.heap.size, 4, none⟩ = some (.slice la xlo.length lc) := by rw [cell_of_row w7 (w.heap.size) 4 _ _ _ hbx7]; rfl
                  have s5 : w7.cell? ⟨w.heap.size, 5, none⟩ = some (.int .i64 x5) := by rw [cell_of_row w7 (w.heap.size) 5 _ _ _ hbx7]; rfl
                  have s6 : w7.cell? ⟨w.heap.size, 6, none⟩ = some (.int .i64 x6) := by rw [cell_of_row w7 (w.heap.size) 6 _ _ _ hbx7]; rfl
                  have s7 : w7.cell? ⟨w.heap.size, 7, none⟩ = some (.int .i64 x7) := by rw [cell_of_row w7 (w.heap.size) 7 _ _ _ hbx7]; rfl
                  have s8 : w7.cell? ⟨w.heap.size, 8, none⟩ = some (.int .i64 x8) := by rw [cell_of_row w7 (w.heap.size) 8 _ _ _ hbx7]; rfl
                  have s9 : w7.cell? ⟨w.heap.size, 9, none⟩ = some (.int .i64 x9) := by rw [cell_of_row w7 (w.heap.size) 9 _ _ _ hbx7]; rfl
                  clear hbx7
                  have HGF := Lib.hid HM7.out.gr
                  have HSTF := Lib.hid HM7.out.st
                  have g0 : w7.cell? ⟨gb, 0, none⟩ = some nv4 := by rw [cell_of_row w7 gb 0 _ _ _ HGF.out.g]; rfl
                  have hgb7 := lt_of_block HGF.out.g
                  have hln := HSTF.out.len
                  have HLN := Lib.hid hln
                  have HNV := Lib.hid (sl_of_ow HGF.out.n)
                  obtain ⟨an, cn, hnv, mn, HNN⟩ := sl_open HNV.out
                  obtain ⟨bn, on, hann, hbn, hcn⟩ := HNN.out (by omega)
                  subst hann
                  obtain ⟨p5, hp5⟩ : ∃ p : Nat, x5 = (p : Int) := ⟨x5.toNat, by omega⟩
                  obtain ⟨p6, hp6⟩ : ∃ p : Nat, x6 = (p : Int) := ⟨x6.toNat, by omega⟩
                  subst hp5; subst hp6
                  have n5 := hcn p5 (by omega) 0 (by omega)
                  have n6 := hcn p6 (by omega) 0 (by omega)
                  simp only [iEnc, Nat.mul_one, Nat.add_zero] at n5 n6
                  rw [hnv] at g0 HNV
                  have hp5l : (p5 : Int) < (sF.1.length : Int) := by omega
                  have hp6l : (p6 : Int) < (sF.1.length : Int) := by omega
                  clear hln
                  have hwmz : w.heap.size ≤ w7.heap.size := by omega
                  have HNOK : Hid (∀ x ∈ sF.1, okI x) := fun x hx => by have := HSTF.out.num x hx; unfold okI; omega
                  have HREN : Hid (∀ (l : List TrD) (v : Value), Sl w 9 TrD.enc v l → (∀ t ∈ l, t.ok w) → l.length ≤ 1048576 → toB xlo.length l = true → ∀ W, Below w.heap.size w W → Below w7.heap.size w7 W → Calls Try.prog 19 #[v, .slice (some ⟨bn, on, none⟩) sF.1.length cn] W fun e w' => ∃ v', e = .returned v' ∧ Ow w' W.heap.size 40 9 TrD.enc v' (l.map (ren sF.1)) ∧ Below W.heap.size W w') := by
                    intro l v hl hok hz htb W h1 h2
                    exact renamed_any v _ l sF.1 W (hl.keep h1) (HNV.out.keep h2) (fun t ht => (hok t ht).keep h1) (fun t ht => by rw [HLN.out]; exact List.all_eq_true.1 htb t ht) hz
                  clear hcn
                  obtain ⟨N5, HN5⟩ : ∃ v, Hid (sF.1.getD p5 default = v) := ⟨_, rfl⟩
                  obtain ⟨N6, HN6⟩ : ∃ v, Hid (sF.1.getD p6 default = v) := ⟨_, rfl⟩
                  rw [HN5.out] at n5
                  rw [HN6.out] at n6
                  go_wp2_with fail
                  go_region
                  go_wp2_with fail
                  go_region
                  go_wp2_with fail
                  generalize hW8 : World.drew (World.drew (World.alloc w7 _)) = W8
                  have HB8 : Hid (Below w7.heap.size w7 W8) := by rw [← hW8]; exact ((Below.refl _ _).alloc (Nat.le_refl _) _).drew.drew
                  have HBO8 : Hid (W8.heap[w7.heap.size]? = some (.cells #[.string xn, .int .i64 xp, .slice fa xfr.length fc, .slice ia xin.length ic, .slice none 0 0, .int .i64 N5, .int .i64 N6, .int .i64 x7, .int .i64 x8, .int .i64 x9] 26 (0, 0))) := by rw [← hW8]; exact heap_new' _ _
                  have hz8 : w7.heap.size < W8.heap.size := by rw [← hW8]; show w7.heap.size < (w7.heap.push _).size; simp
                  clear hW8 s0 s1 s2 s3 s4 s5 s6 s7 s8 s9 n5 n6
                  obtain ⟨bq, hbq⟩ : ∃ bq, bq = w7.heap.size := ⟨_, rfl⟩
                  rw [← hbq] at HBO8 hz8 ⊢
                  have HBQ := Lib.hid hbq
                  have hbqg : w7.heap.size ≤ bq := by omega
                  have hbql : bq ≤ w7.heap.size := by omega
                  clear hbq
                  as_aux_lemma =>
                    go_loopw [16] (fun ii wr => ∃ (i : Nat) (lv : Value) (D : List LoD), ii = .int .i64 i ∧ i ≤ sF.2.length ∧ Hid (wr.heap[bq]? = some (.cells #[.string xn, .int .i64 xp, .slice fa xfr.length fc, .slice ia xin.length ic, lv, .int .i64 N5, .int .i64 N6, .int .i64 x7, .int .i64 x8, .int .i64 x9] 26 (0, 0))) ∧ Hid (Ow wr W8.heap.size 36 7 LoD.enc lv D) ∧ Hid (D.length = i) ∧ Hid (∀ q, q < i → LoA (D.getD q default) (renL sF.1 (xlo.getD (sF.2.getD q default).toNat default))) ∧ Hid (∀ t ∈ D, LoW w W8.heap.size wr t) ∧ Hid (OutsP (fun k => k = bq) W8 wr)) (fun ii _ => sF.2.length - (intOf ii).toNat)
                    case atStart => exact ⟨0, _, [], rfl, Nat.zero_le _, HBO8.out, ow_nil _ _ _ _ _, rfl, fun q h => absurd h (by omega), fun t ht => by simp at ht, OutsP.refl _ _⟩
                    case round =>
                      as_aux_lemma =>
                        obtain ⟨i, lv, D, rfl, hi, hbo, hol, hdl, hal, hrd, hou⟩ := hrel
                        have hsz9 := hou.out.size
                        have HKP : Hid (∀ k, k < w7.heap.size → wr.heap[k]? = w7.heap[k]?) := fun k h => (hou.out.block k (by omega) (by omega)).trans (HB8.out.block k h)
                        have HB9 : Hid (Below w7.heap.size w7 wr) := HB8.out.trans (hou.out.below (by omega) (fun k h => by omega))
                        have HBw9 : Hid (Below w.heap.size w wr) := (HW2.out.trans (HB7.out.mono (by omega))).trans (HB9.out.mono (by omega))
                        have hbx9 := (HKP.out w.heap.size hbw7).trans ((HB7.out.block w.heap.size hb0).trans HBX2.out)
                        have s4 : wr.cell? ⟨w.heap.size, 4, none⟩ = some (.slice la xlo.length lc) := by rw [cell_of_row wr (w.heap.size) 4 _ _ _ hbx9]; rfl
                        clear hbx9
                        have hGr9 := HGF.out.keep HB9.out
                        have u0 : wr.cell? ⟨gb, 0, none⟩ = some nv4 := by rw [cell_of_row wr gb 0 _ _ _ hGr9.g]; rfl
                        have u1 : wr.cell? ⟨gb, 1, none⟩ = some ov7 := by rw [cell_of_row wr gb 1 _ _ _ hGr9.g]; rfl
                        rw [hnv] at u0
                        have hgb9 := lt_of_block hGr9.g
                        have hbw9 : w.heap.size < wr.heap.size := by omega
                        have HGR9 := Lib.hid hGr9
                        obtain ⟨ao, co, hov, mo, HOO⟩ := sl_open (sl_of_ow hGr9.o)
                        rw [hov] at u1
                        clear hGr9
                        by_cases hlt : i < sF.2.length
                        · obtain ⟨bo, oo, hao, hbo2, hco⟩ := HOO.out (by omega)
                          subst hao
                          have p0 := hco i hlt 0 (by omega)
                          simp only [iEnc, Nat.mul_one, Nat.add_zero] at p0
                          have hpin := HSTF.out.ord (sF.2.getD i default) (mem_getD hlt)
                          have HAQ : Hid (∀ z : LoD, LoA z (renL sF.1 (xlo.getD (sF.2.getD i default).toNat default)) → ∀ q, q < i + 1 → LoA ((D ++ [z]).getD q default) (renL sF.1 (xlo.getD (sF.2.getD q default).toNat default))) := by
                            intro z hz q hq
                            by_cases h : q < i
                            · have e : (D ++ [z]).getD q default = D.getD q default := by
                                simp [List.getD_eq_getElem?_getD, List.getElem?_append, show q < D.length by rw [hdl.out]; exact h]
                              rw [e]
                              exact hal.out q h
                            · obtain rfl : q = i := by omega
                              have e : (D ++ [z]).getD q default = z := by
                                simp [List.getD_eq_getElem?_getD, ← hdl.out]
                              rw [e]
                              exact hz
                          clear hco
                          generalize sF.2.getD i default = pp at *
                          obtain ⟨hp0, hp1⟩ := inF_iff.1 hpin
                          obtain ⟨p, rfl⟩ : ∃ q : Nat, pp = (q : Int) := ⟨pp.toNat, by omega⟩
                          have hpn : p < xlo.length := by omega
                          obtain ⟨ba, oa, rfl, hba, hca⟩ := HL.out (by omega)
                          have hba2 : ba < wr.heap.size := by have := HBw9.out.size; omega
                          have hca := fun j hj => (HBw9.out.cell (p := ⟨ba, oa + p * 7 + j, none⟩) hba).trans (hca p hpn j hj)
                          have hrdy := HX.out.locs (xlo.getD p default) (mem_getD hpn)
                          have hsm := HSM.out (xlo.getD p default) (mem_getD hpn)
                          have hlo : loB xlo.length (xlo.getD p default) = true := List.all_eq_true.1 HIL.out _ (mem_getD hpn)
                          rw [show ((p : Int)).toNat = p by omega] at HAQ
                          generalize xlo.getD p default = y at *
                          obtain ⟨yo, ye, y2, y3, y4, y5, y6, yl, ys⟩ := y
                          have HRD := Lib.hid hrdy; have HSMM := Lib.hid hsm; have HLOB := Lib.hid hlo
                          obtain ⟨a4, q4, ho1, -, -⟩ := sl_open hrdy.ov
                          obtain ⟨a5, q5, ho2, m5, HEV⟩ := sl_open hrdy.ev
                          simp only at ho1 ho2 HEV m5
                          subst ho1; subst ho2
                          clear hrdy hsm hlo
                          have d0 := hca 0 (by omega); have d1 := hca 1 (by omega); have d2 := hca 2 (by omega); have d3 := hca 3 (by omega); have d4 := hca 4 (by omega); have d5 := hca 5 (by omega); have d6 := hca 6 (by omega)
                          clear hca
                          simp only [LoD.enc, Nat.add_zero] at d0 d1 d2 d3 d4 d5 d6
                          have hik0 : (0 : Int) ≤ (i : Int) := by omega
                          have hpp1 : (p : Int) < (xlo.length : Int) := by omega
                          obtain ⟨wo3, rfl⟩ : ∃ wo3 : World, wo3 = wr := ⟨_, rfl⟩
                          go_wp2_with fail
                          go_region
                          go_wp2_with fail
                          generalize hW9 : World.drew (World.alloc (World.alloc wo3 _) _) = W9
                          have HB90 : Hid (Below wo3.heap.size wo3 W9) := by rw [← hW9]; exact (((Below.refl _ _).alloc (Nat.le_refl _) _).alloc (by simp) _).drew
                          have HC17 : Hid (W9.heap[wo3.heap.size]? = some (.cells #[.slice a4 yl.length q4, .slice a5 ys.length q5, .bool y2, .bool y3, .bool y4, .bool y5, .bool y6] 36 (0, 0))) := by rw [← hW9]; exact heap_two_a _ _ _
                          have HC18 : Hid (W9.heap[wo3.heap.size + 1]? = some (.cells #[.slice a4 yl.length q4, .slice a5 ys.length q5, .bool y2, .bool y3, .bool y4, .bool y5, .bool y6] 36 (0, 0))) := by rw [← hW9]; exact heap_two_b _ _ _
                          have hz90 : W9.heap.size = wo3.heap.size + 2 := by rw [← hW9]; show ((wo3.heap.push _).push _).size = _; simp
                          clear hW9 d0 d1 d2 d3 d4 d5 d6 s4 u0 u1 p0
                          obtain ⟨b17, hb17⟩ : ∃ b, b = wo3.heap.size := ⟨_, rfl⟩
                          obtain ⟨b18, hb18⟩ : ∃ b, b = wo3.heap.size + 1 := ⟨_, rfl⟩
                          rw [← hb17] at HC17
                          rw [← hb18] at HC18
                          have e17 := cell_of_row W9 b17 0 _ _ _ HC17.out
                          have e18 := cell_of_row W9 b18 0 _ _ _ HC18.out
                          have v0 : W9.cell? ⟨b17, 0, none⟩ = some (.slice a4 yl.length q4) := e17.trans rfl
                          clear e17 e18
                          have HBN9 : Hid (Below w7.heap.size w7 W9) := HB9.out.trans (HB90.out.mono (by omega))
                          have HBW99 : Hid (Below w.heap.size w W9) := HBw9.out.trans (HB90.out.mono (by have := HBw9.out.size; omega))
                          have hGr99 := HGF.out.keep HBN9.out
                          have u0 : W9.cell? ⟨gb, 0, none⟩ = some nv4 := by rw [cell_of_row W9 gb 0 _ _ _ hGr99.g]; rfl
                          rw [hnv] at u0
                          clear hGr99
                          obtain ⟨YR, HYR⟩ : ∃ YR, Hid (yl.map (ren sF.1) = YR) := ⟨_, rfl⟩
                          have HRN := Lib.hid (HREN.out yl _ HRD.out.ov HRD.out.out HSMM.out.oz (by have := HLOB.out; unfold loB at this; exact (Bool.and_eq_true_iff.1 this).1))
                          have HLR : Hid (YR.length = yl.length) := by unfold Hid; rw [← HYR.out]; simp
                          have HOKY : Hid (∀ u ∈ YR, u.ok w) := fun u hu => by
                            rw [← HYR.out] at hu
                            obtain ⟨t, ht, rfl⟩ := List.mem_map.1 hu
                            have := HLOB.out
                            unfold loB at this
                            exact ren_ok (HRD.out.out t ht) (by rw [HLN.out]; exact List.all_eq_true.1 (Bool.and_eq_true_iff.1 this).1 t ht) HNOK.out
                          rw [HYR.out] at HRN
                          rw [← hb18, ← hb17]
                          have h17g : w7.heap.size ≤ b17 := by omega
                          have h17w : wo3.heap.size ≤ b17 := by omega
                          have h178 : b17 < b18 := by omega
                          have h17l : b17 < W9.heap.size := by omega
                          have h18l : b18 < W9.heap.size := by omega
                          have hgbl : gb < W9.heap.size := by omega
                          have hz99 : W8.heap.size ≤ W9.heap.size := by omega
                          have hz93 : wo3.heap.size ≤ W9.heap.size := by omega
                          have H17 := Lib.hid hb17; have H18 := Lib.hid hb18; have HZ90 := Lib.hid hz90
                          clear hb17 hb18 hz90
                          have p17 : W9.drew.cell? ⟨b17, 0, none⟩ = some (.slice a4 yl.length q4) := v0
                          have pgb : W9.drew.cell? ⟨gb, 0, none⟩ = some (.slice (some ⟨bn, on, none⟩) sF.1.length cn) := u0
                          have p18 : W9.drew.cell? ⟨b18, 0, none⟩ = some (.slice a4 yl.length q4) := (cell_of_row W9 b18 0 _ _ _ HC18.out).trans rfl
                          have f18 : W9.drew.frozen? ⟨b18, 0, none⟩ = false := frozen_of_row W9 b18 0 _ _ HC18.out
                          have hn178 : b17 ≠ b18 := by omega
                          have hng8 : gb ≠ b18 := by omega
                          go_region_held3 (fun w' : World => w'.cell? ⟨b17, 0, none⟩ = some (.slice a4 yl.length q4) ∧ w'.cell? ⟨gb, 0, none⟩ = some (.slice (some ⟨bn, on, none⟩) sF.1.length cn)) (first | exact ⟨p17, pgb⟩ | exact hS10 | exact hS11) (first | (go_at_call 19; refine (HRN.out W9.drew HBW99.out.drew HBN9.out.drew).mono ?_; rintro e w10 ⟨v10, rfl, ho10, hw10⟩; have HO10 := Lib.hid ho10; have HB10 := Lib.hid hw10; clear ho10 hw10; obtain ⟨a10, c10, rfl⟩ := HO10.out.slice; have hg18 := (HB10.out.block b18 h18l).trans HC18.out; have hS10 : w10.cell? ⟨b17, 0, none⟩ = some (.slice a4 yl.length q4) ∧ w10.cell? ⟨gb, 0, none⟩ = some (.slice (some ⟨bn, on, none⟩) sF.1.length cn) := ⟨(HB10.out.cell (p := ⟨b17, 0, none⟩) h17l).trans v0, (HB10.out.cell (p := ⟨gb, 0, none⟩) hgbl).trans u0⟩; have hS11 : (w10.setCell ⟨b18, 0, none⟩ (.slice a10 YR.length c10)).cell? ⟨b17, 0, none⟩ = some (.slice a4 yl.length q4) ∧ (w10.setCell ⟨b18, 0, none⟩ (.slice a10 YR.length c10)).cell? ⟨gb, 0, none⟩ = some (.slice (some ⟨bn, on, none⟩) sF.1.length cn) := ⟨(World.cell?_of_block (a := ⟨b17, 0, none⟩) (Below.heap_setCell _ _ _ _ hn178)).trans hS10.1, (World.cell?_of_block (a := ⟨gb, 0, none⟩) (Below.heap_setCell _ _ _ _ hng8)).trans hS10.2⟩; have y18 := frozen_of_row w10 b18 0 _ _ hg18; have x18 : w10.cell? ⟨b18, 0, none⟩ = some (.slice a4 yl.length q4) := (cell_of_row w10 b18 0 _ _ _ hg18).trans rfl; have y18b := frozen_of_row w10 b18 1 _ _ hg18; have x18b : w10.cell? ⟨b18, 1, none⟩ = some (.slice a5 ys.length q5) := (cell_of_row w10 b18 1 _ _ _ hg18).trans rfl))
                          all_goals
                            go_wp2_with fail
                            generalize hW11 : World.setCell (World.setCell w10 _ _) _ _ = W11
                            have HC11 : Hid (W11.heap[b18]? = some (.cells #[.slice a10 YR.length c10, .slice none 0 0, .bool y2, .bool y3, .bool y4, .bool y5, .bool y6] 36 (0, 0))) := by
                              rw [← hW11]
                              exact heap_setCell_same _ b18 1 _ 36 _ (heap_setCell_same w10 b18 0 _ 36 _ hg18)
                            have HO11 : Hid (OutsP (fun k => k = b18) W9 W11) := by
                              rw [← hW11]
                              exact (((OutsP.of_below (S := fun k => k = b18) ((below_drew W9).trans HB10.out)).setCell (p := ⟨b18, 0, none⟩) (.inl rfl) _).setCell (p := ⟨b18, 1, none⟩) (.inl rfl) _)
                            have HR11 : Hid (Ow W11 W9.heap.size 40 9 TrD.enc (.slice a10 YR.length c10) YR) := by
                              rw [← hW11]
                              exact ownsRow_setCell_other (ownsRow_setCell_other HO10.out (a := ⟨b18, 0, none⟩) (fun e => by have := (HO10.out.lt b18 e).1; exact absurd this (by show ¬ W9.heap.size ≤ b18; omega)) _) (a := ⟨b18, 1, none⟩) (fun e => by have := (HO10.out.lt b18 e).1; exact absurd this (by show ¬ W9.heap.size ≤ b18; omega)) _
                            clear hW11 x18 x18b y18 y18b hg18
                            have hz11 := HO11.out.size
                            as_aux_lemma =>
                              go_loopw [19] (fun ii wr => ∃ (k : Nat) (ev : Value) (E : List EsD), k ≤ ys.length ∧ ii = .int .i64 k ∧ Hid (wr.heap[b18]? = some (.cells #[.slice a10 YR.length c10, ev, .bool y2, .bool y3, .bool y4, .bool y5, .bool y6] 36 (0, 0))) ∧ Hid (Ow wr W11.heap.size 33 1 EsD.enc ev E) ∧ Hid (E.map EsD.l = (ys.take k).map fun e => e.l.map (ren sF.1)) ∧ Hid (∀ e ∈ E, Ow wr W11.heap.size 40 9 TrD.enc e.v e.l ∧ ∀ u ∈ e.l, u.ok w) ∧ Hid (OutsP (fun k => k = b18) W11 wr)) (fun ii _ => ys.length - (intOf ii).toNat)
                              case atStart => exact ⟨0, _, [], Nat.zero_le _, rfl, HC11.out, ow_nil _ _ _ _ _, rfl, fun e he => by simp at he, OutsP.refl _ _⟩
                              case round =>
                                as_aux_lemma =>
                                  obtain ⟨k, ev, E, hk7, rfl, hc18, hev, hel, hee, ho7⟩ := hrel
                                  have hsz12 := ho7.out.size
                                  have HO12 : Hid (OutsP (fun k => k = b18) W9 wr) := HO11.out.trans ho7.out (fun x hx => .inl hx)
                                  have c17 := (HO12.out.block b17 h17l (by omega)).trans HC17.out
                                  have c18 := hc18.out
                                  obtain ⟨ea, ec, rfl⟩ := hev.out.slice
                                  have t171 : wr.cell? ⟨b17, 1, none⟩ = some (.slice a5 ys.length q5) := (cell_of_row wr b17 1 _ _ _ c17).trans rfl
                                  have t181 : wr.cell? ⟨b18, 1, none⟩ = some (.slice ea E.length ec) := (cell_of_row wr b18 1 _ _ _ c18).trans rfl
                                  have z181 := frozen_of_row wr b18 1 _ _ c18
                                  clear c17
                                  have HBW12 : Hid (Below w.heap.size w wr) := HBW99.out.trans (HO12.out.below (by have := HBW99.out.size; omega) (fun k hk => by have := HBw9.out.size; omega))
                                  have HBN12 : Hid (Below w7.heap.size w7 wr) := HBN9.out.trans (HO12.out.below (by omega) (fun k hk => by omega))
                                  have hGr12 := HGF.out.keep HBN12.out
                                  have u0' : wr.cell? ⟨gb, 0, none⟩ = some nv4 := by rw [cell_of_row wr gb 0 _ _ _ hGr12.g]; rfl
                                  rw [hnv] at u0'
                                  clear hGr12
                                  have hb17r : b17 < wr.heap.size := by omega
                                  have hb18r : b18 < wr.heap.size := by omega
                                  have hgbr : gb < wr.heap.size := by omega
                                  by_cases hlt7 : k < ys.length
                                  · obtain ⟨be, oe, rfl, hbe, hce⟩ := HEV.out (by omega)
                                    have HEL := Lib.hid (map_take_snoc (fun e : EsD => e.l.map (ren sF.1)) ys k hlt7)
                                    have hem := HRD.out.esc (ys.getD k default) (mem_getD hlt7)
                                    have hes := HSMM.out.esc (ys.getD k default) (mem_getD hlt7)
                                    have heb : toB xlo.length (ys.getD k default).l = true := by
                                      have := HLOB.out
                                      unfold loB at this
                                      exact List.all_eq_true.1 (Bool.and_eq_true_iff.1 this).2 _ (mem_getD hlt7)
                                    have e0 := (HBW12.out.cell (p := ⟨be, oe + k * 1 + 0, none⟩) hbe).trans (hce k hlt7 0 (by omega))
                                    clear hce
                                    generalize ys.getD k default = z at *
                                    obtain ⟨zv, zl⟩ := z
                                    simp only [EsD.enc, Nat.mul_one, Nat.add_zero] at e0 hem hes heb HEL
                                    obtain ⟨az, qz, rfl, -, -⟩ := sl_open hem.1
                                    have hber : be < wr.heap.size := by have := HBW12.out.size; omega
                                    have hk70 : (0 : Int) ≤ (k : Int) := by omega
                                    have hk71 : (k : Int) < (ys.length : Int) := by omega
                                    have HRN2 := Lib.hid (HREN.out zl _ hem.1 hem.2 hes.1 heb)
                                    have HOKZ : Hid (∀ u ∈ zl.map (ren sF.1), u.ok w) := fun u hu => by
                                      obtain ⟨t, ht, rfl⟩ := List.mem_map.1 hu
                                      exact ren_ok (hem.2 t ht) (by rw [HLN.out]; exact List.all_eq_true.1 heb t ht) HNOK.out
                                    clear hem hes heb
                                    obtain ⟨ZR, HZR⟩ : ∃ ZR, Hid (zl.map (ren sF.1) = ZR) := ⟨_, rfl⟩
                                    rw [HZR.out] at HRN2 HOKZ HEL
                                    obtain ⟨wo5, rfl⟩ : ∃ wo5 : World, wo5 = wr := ⟨_, rfl⟩
                                    have hEz : E.length ≤ 1048576 := by
                                      have := congrArg List.length hel.out
                                      simp at this
                                      have := HSMM.out.ez
                                      simp only at this
                                      omega
                                    go_wp2_with fail
                                    go_still_tail 9, (by kernel_rfl)
                                    go_wp2_with fail
                                    refine (HRN2.out wo5.drew HBW12.out.drew HBN12.out.drew).mono ?_
                                    rintro e w13 ⟨v13, rfl, ho13, hw13⟩
                                    have HO13 := Lib.hid ho13
                                    have HB13 := Lib.hid hw13
                                    clear ho13 hw13
                                    obtain ⟨a13, c13, rfl⟩ := HO13.out.slice
                                    all_goals
                                      have HB13' : Hid (Below wo5.heap.size wo5 w13) := (below_drew wo5).trans HB13.out
                                      have hz13 := HB13'.out.size
                                      have c18' := (HB13'.out.block b18 hb18r).trans c18
                                      have t18' : w13.cell? ⟨b18, 1, none⟩ = some (.slice ea E.length ec) := (cell_of_row w13 b18 1 _ _ _ c18').trans rfl
                                      have hev13 := Lib.hid (hev.out.keep HB13'.out)
                                      have hwz13 : W11.heap.size ≤ w13.heap.size := by omega
                                      clear HB13
                                      go_wp2_with (at_builtin; go_must (refine wpList_push elt34 rfl _ _ rfl W11.heap.size EsD.enc (.slice ea E.length ec) E rfl (hev13.out.alloc _) w13.heap.size ⟨.slice a13 ZR.length c13, ZR⟩ _ rfl (heap_new' _ _) rfl (by intro u hu; simp at hu; rw [hu]; rfl) (by omega) (by simp; omega) (Hid.out ?c4)))
                                      case c4 =>
                                        unfold Hid
                                        intro g cap w14 h1 h2 h3
                                        have hne18 : (Value.slice ea E.length ec).ownBlock ≠ some b18 := fun e => by have := (hev.out.lt b18 e).1; omega
                                        have c18'' : w14.heap[b18]? = some (.cells #[.slice a10 YR.length c10, .slice ea E.length ec, .bool y2, .bool y3, .bool y4, .bool y5, .bool y6] 36 (0, 0)) := (h2.block b18 (by simp; omega) (fun e => hne18 e.symm)).trans ((Below.heap_alloc _ _ _ (by omega)).trans c18')
                                        have q1 : w14.cell? ⟨b18, 1, none⟩ = some (.slice ea E.length ec) := (cell_of_row w14 b18 1 _ _ _ c18'').trans rfl
                                        have q2 := frozen_of_row w14 b18 1 _ _ c18''
                                        have hg18' : g ≠ b18 := fun e => by
                                          subst e
                                          rcases h3 with h | h
                                          · exact hne18 h
                                          · omega
                                        have hgB : W11.heap.size ≤ g := by
                                          rcases h3 with h | h
                                          · exact (hev.out.lt g h).1
                                          · omega
                                        have HOU : Hid (OutsP (fun k => k = b18 ∨ (Value.slice ea E.length ec).ownBlock = some k) wo5 (w14.setCell ⟨b18, 1, none⟩ (.slice (some ⟨g, 0, none⟩) (E.length + 1) cap))) := (((OutsP.of_below HB13'.out).alloc _).grown h2 (fun k hk => .inl (.inr hk))).setCell (p := ⟨b18, 1, none⟩) (.inl (.inl rfl)) _
                                        have HP : Hid (∃ (ev : Value) (E' : List EsD), (.slice (some ⟨g, 0, none⟩) (E.length + 1) cap : Value) = ev ∧ Hid ((w14.setCell ⟨b18, 1, none⟩ (.slice (some ⟨g, 0, none⟩) (E.length + 1) cap)).heap[b18]? = some (.cells #[.slice a10 YR.length c10, ev, .bool y2, .bool y3, .bool y4, .bool y5, .bool y6] 36 (0, 0))) ∧ Hid (Ow (w14.setCell ⟨b18, 1, none⟩ (.slice (some ⟨g, 0, none⟩) (E.length + 1) cap)) W11.heap.size 33 1 EsD.enc ev E') ∧ Hid (E'.map EsD.l = (ys.take (k + 1)).map fun e => e.l.map (ren sF.1)) ∧ Hid (∀ e ∈ E', Ow (w14.setCell ⟨b18, 1, none⟩ (.slice (some ⟨g, 0, none⟩) (E.length + 1) cap)) W11.heap.size 40 9 TrD.enc e.v e.l ∧ ∀ u ∈ e.l, u.ok w) ∧ Hid (OutsP (fun k => k = b18) W11 (w14.setCell ⟨b18, 1, none⟩ (.slice (some ⟨g, 0, none⟩) (E.length + 1) cap)))) := by
                                          refine ⟨_, E ++ [⟨.slice a13 ZR.length c13, ZR⟩], rfl, ?_, ?_, ?_, ?_, ?_⟩
                                          · exact heap_setCell_same w14 b18 1 _ 36 _ c18''
                                          · have h4 := ownsRow_setCell_other h1 (a := ⟨b18, 1, none⟩) (by simpa [Value.ownBlock] using hg18') (.slice (some ⟨g, 0, none⟩) (E.length + 1) cap)
                                            exact h4
                                          · unfold Hid
                                            rw [HEL.out, List.map_append, hel.out]
                                            rfl
                                          · intro e he
                                            rcases List.mem_append.1 he with he | he
                                            · refine ⟨own_outs (hee.out e he).1 HOU.out (fun q hq h => ?_), (hee.out e he).2⟩
                                              rcases h with h | h
                                              · have := ((hee.out e he).1.lt q hq).1; omega
                                              · exact ow_ne2 (hee.out e he).1 hev.out (by rw [hq, h]) (by rw [hq]; simp)
                                            · obtain rfl : e = ⟨.slice a13 ZR.length c13, ZR⟩ := by simpa using he
                                              refine ⟨?_, HOKZ.out⟩
                                              have h5 : Ow w13 W11.heap.size 40 9 TrD.enc (.slice a13 ZR.length c13) ZR := HO13.out.base (by show W11.heap.size ≤ wo5.heap.size; omega)
                                              have h6 : ∀ q, (Value.slice a13 ZR.length c13).ownBlock = some q → wo5.heap.size ≤ q := fun q hq => (HO13.out.lt q hq).1
                                              exact ownsRow_setCell_other ((h5.alloc _).kept h2 (by
                                                cases hu : (Value.slice a13 ZR.length c13).ownBlock with
                                                | none => exact .inl rfl
                                                | some q => exact .inr (fun e => by have h7 := h6 q hu; have h8 := (hev.out.lt q e.symm).2; omega))) (a := ⟨b18, 1, none⟩) (fun e => by have := h6 b18 e; omega) _
                                          · exact ho7.out.trans HOU.out (fun x hx => by
                                              rcases hx with hx | hx
                                              · exact .inl hx
                                              · exact .inr (hev.out.lt x hx).1)
                                        clear h1 h2 h3
                                        obtain ⟨ev', E', rfl, k1, k2, k3, k4, k5⟩ := HP.out
                                        go_wp2
                                        go_roundw
                                        case rel => exact ⟨k + 1, _, E', by omega, by go_num, k1, k2, k3, k4, k5⟩
                                        case measure => simp [intOf]; omega
                                  · obtain rfl : k = ys.length := by omega
                                    have hel2 := hel.out
                                    rw [List.take_length] at hel2
                                    have HEL2 := Lib.hid hel2
                                    have HO39 : Hid (OutsP (fun k => k = b18) wo3 wr) := (OutsP.of_below (S := fun k => k = b18) HB90.out).trans HO12.out (fun x hx => .inl hx)
                                    have cbq := (HO39.out.block bq (by omega) (by omega)).trans hbo.out
                                    have HOL9 : Hid (Ow wr W8.heap.size 36 7 LoD.enc lv D) := hol.out.outs HO39.out (fun k h1 h2 => by omega)
                                    obtain ⟨la', lc', hlv⟩ := HOL9.out.slice
                                    have qb4 : wr.cell? ⟨bq, 4, none⟩ = some lv := (cell_of_row wr bq 4 _ _ _ cbq).trans rfl
                                    rw [hlv] at qb4 HOL9 cbq
                                    have t180 : wr.cell? ⟨b18, 0, none⟩ = some (.slice a10 YR.length c10) := (cell_of_row wr b18 0 _ _ _ c18).trans rfl
                                    have t182 : wr.cell? ⟨b18, 2, none⟩ = some (.bool y2) := (cell_of_row wr b18 2 _ _ _ c18).trans rfl
                                    have t183 : wr.cell? ⟨b18, 3, none⟩ = some (.bool y3) := (cell_of_row wr b18 3 _ _ _ c18).trans rfl
                                    have t184 : wr.cell? ⟨b18, 4, none⟩ = some (.bool y4) := (cell_of_row wr b18 4 _ _ _ c18).trans rfl
                                    have t185 : wr.cell? ⟨b18, 5, none⟩ = some (.bool y5) := (cell_of_row wr b18 5 _ _ _ c18).trans rfl
                                    have t186 : wr.cell? ⟨b18, 6, none⟩ = some (.bool y6) := (cell_of_row wr b18 6 _ _ _ c18).trans rfl
                                    have hbqr : bq < wr.heap.size := by omega
                                    have hDz : D.length ≤ 1048576 := by
                                      have := hdl.out
                                      have := HSTF.out.le
                                      omega
                                    have HW8r : W8.heap.size ≤ wr.heap.size := by omega
                                    have HLOW : Hid (LoW w W8.heap.size wr ⟨.slice a10 YR.length c10, .slice ea E.length ec, y2, y3, y4, y5, y6, YR, E⟩) :=
                                      ⟨(HR11.out.outs ho7.out (fun k h1 h2 => by omega)).base (by omega), HOKY.out, hev.out.base (by omega), fun e he => ⟨(hee.out e he).1.base (by omega), (hee.out e he).2⟩⟩
                                    have HLOA : Hid (LoA ⟨.slice a10 YR.length c10, .slice ea E.length ec, y2, y3, y4, y5, y6, YR, E⟩ (renL sF.1 ⟨.slice a4 yl.length q4, .slice a5 ys.length q5, y2, y3, y4, y5, y6, yl, ys⟩)) :=
                                      ⟨HYR.out.symm, rfl, rfl, rfl, rfl, rfl, by rw [HEL2.out]; show _ = (ys.map (renE sF.1)).map EsD.l; rw [List.map_map]; rfl⟩
                                    have HYO1 : Hid (∀ u ∈ (#[.slice a10 YR.length c10, .slice ea E.length ec, .bool y2, .bool y3, .bool y4, .bool y5, .bool y6] : Array Value).toList, u.oneCell' = true) := by
                                      intro u hu
                                      simp at hu
                                      rcases hu with rfl | rfl | rfl | rfl | rfl | rfl | rfl <;> rfl
                                    have hW8r1 : ∀ o : Obj, W8.heap.size ≤ (wr.alloc o).heap.size := fun o => by simp; omega
                                    go_wp2_with (first | (with_reducible refine wpList_build1 elt24 (o := ⟨some 191, _, _, _, _, _⟩) rfl _ rfl #[.slice a10 YR.length c10, .slice ea E.length ec, .bool y2, .bool y3, .bool y4, .bool y5, .bool y6] rfl rfl (by decide) ?_) | (at_builtin; go_must (refine wpList_push elt24 rfl _ _ rfl W8.heap.size LoD.enc (.slice la' D.length lc') D rfl (HOL9.out.alloc _) wr.heap.size (⟨.slice a10 YR.length c10, .slice ea E.length ec, y2, y3, y4, y5, y6, YR, E⟩ : LoD) #[.slice a10 YR.length c10, .slice ea E.length ec, .bool y2, .bool y3, .bool y4, .bool y5, .bool y6] rfl (heap_new' wr _) rfl HYO1.out (by omega) (hW8r1 _) (Hid.out ?c4))))
                                    case c4 =>
                                      unfold Hid
                                      intro g cap w14 h1 h2 h3
                                      have hneq : (Value.slice la' D.length lc').ownBlock ≠ some bq := fun e => by have := (HOL9.out.lt bq e).1; omega
                                      have cbq' := (h2.block bq (by simp; omega) (fun e => hneq e.symm)).trans ((Below.heap_alloc _ _ _ hbqr).trans cbq)
                                      have r1 : w14.cell? ⟨bq, 4, none⟩ = some (.slice la' D.length lc') := (cell_of_row w14 bq 4 _ _ _ cbq').trans rfl
                                      have r2 := frozen_of_row w14 bq 4 _ _ cbq'
                                      have hgq : g ≠ bq := fun e => by
                                        subst e
                                        rcases h3 with h | h
                                        · exact hneq h
                                        · omega
                                      have HOU : Hid (OutsP (fun k => k = bq ∨ (Value.slice la' D.length lc').ownBlock = some k) wr (w14.setCell ⟨bq, 4, none⟩ (.slice (some ⟨g, 0, none⟩) (D.length + 1) cap))) := (((OutsP.refl _ wr).alloc _).grown h2 (fun k hk => .inl (.inr hk))).setCell (p := ⟨bq, 4, none⟩) (.inl (.inl rfl)) _
                                      have HOW8 : Hid (OutsP (fun k => k = bq) W8 (w14.setCell ⟨bq, 4, none⟩ (.slice (some ⟨g, 0, none⟩) (D.length + 1) cap))) := (hou.out.trans HO39.out (fun x hx => .inr (by omega))).trans HOU.out (fun x hx => by
                                        rcases hx with hx | hx
                                        · exact .inl hx
                                        · exact .inr (HOL9.out.lt x hx).1)
                                      have HDD : Hid (∀ t ∈ D, ∀ x, (t.ov.ownBlock = some x ∨ t.ev.ownBlock = some x ∨ ∃ e ∈ t.esc, e.v.ownBlock = some x) → ¬ (x = bq ∨ (Value.slice la' D.length lc').ownBlock = some x)) := by
                                        intro t ht x hx h
                                        have hrdt := hrd.out t ht
                                        rcases h with h | h
                                        · rcases hx with hx | hx | ⟨e, he, hx⟩
                                          · have := (hrdt.ov.lt x hx).1; omega
                                          · have := (hrdt.ev.lt x hx).1; omega
                                          · have := ((hrdt.esc e he).1.lt x hx).1; omega
                                        · have hol' := hol.out
                                          rw [hlv] at hol'
                                          rcases hx with hx | hx | ⟨e, he, hx⟩
                                          · exact ow_ne3 hrdt.ov hol' (by decide) (by rw [hx, h]) (by rw [hx]; simp)
                                          · exact ow_ne3 hrdt.ev hol' (by decide) (by rw [hx, h]) (by rw [hx]; simp)
                                          · exact ow_ne3 (hrdt.esc e he).1 hol' (by decide) (by rw [hx, h]) (by rw [hx]; simp)
                                      have HP : Hid (∃ (lv : Value) (D' : List LoD), (.slice (some ⟨g, 0, none⟩) (D.length + 1) cap : Value) = lv ∧ Hid ((w14.setCell ⟨bq, 4, none⟩ (.slice (some ⟨g, 0, none⟩) (D.length + 1) cap)).heap[bq]? = some (.cells #[.string xn, .int .i64 xp, .slice fa xfr.length fc, .slice ia xin.length ic, lv, .int .i64 N5, .int .i64 N6, .int .i64 x7, .int .i64 x8, .int .i64 x9] 26 (0, 0))) ∧ Hid (Ow (w14.setCell ⟨bq, 4, none⟩ (.slice (some ⟨g, 0, none⟩) (D.length + 1) cap)) W8.heap.size 36 7 LoD.enc lv D') ∧ Hid (D'.length = i + 1) ∧ Hid (∀ q, q < i + 1 → LoA (D'.getD q default) (renL sF.1 (xlo.getD (sF.2.getD q default).toNat default))) ∧ Hid (∀ t ∈ D', LoW w W8.heap.size (w14.setCell ⟨bq, 4, none⟩ (.slice (some ⟨g, 0, none⟩) (D.length + 1) cap)) t)) := by
                                        refine ⟨_, D ++ [⟨.slice a10 YR.length c10, .slice ea E.length ec, y2, y3, y4, y5, y6, YR, E⟩], rfl, ?_, ?_, ?_, ?_, ?_⟩
                                        · exact heap_setCell_same w14 bq 4 _ 26 _ cbq'
                                        · exact ownsRow_setCell_other h1 (a := ⟨bq, 4, none⟩) (by simpa [Value.ownBlock] using hgq) (.slice (some ⟨g, 0, none⟩) (D.length + 1) cap)
                                        · unfold Hid; rw [List.length_append, hdl.out]; rfl
                                        · exact HAQ.out _ HLOA.out
                                        · intro t ht
                                          rcases List.mem_append.1 ht with ht | ht
                                          · have h5 := (hrd.out t ht).outs HO39.out (fun k h1 h2 => by omega)
                                            have h6 := HDD.out t ht
                                            exact ⟨own_outs h5.ov HOU.out (fun q hq => h6 q (.inl hq)), h5.out, own_outs h5.ev HOU.out (fun q hq => h6 q (.inr (.inl hq))), fun e he => ⟨own_outs (h5.esc e he).1 HOU.out (fun q hq => h6 q (.inr (.inr ⟨e, he, hq⟩))), (h5.esc e he).2⟩⟩
                                          · obtain rfl : t = ⟨.slice a10 YR.length c10, .slice ea E.length ec, y2, y3, y4, y5, y6, YR, E⟩ := by simpa using ht
                                            have h5 := HLOW.out
                                            have hne : ∀ {α : Type} {E sz : Nat} {enc : α → Nat → Value} {v : Value} {l : List α}, Ow wr W8.heap.size E sz enc v l → E ≠ 36 → ∀ q, v.ownBlock = some q → ¬ (q = bq ∨ (Value.slice la' D.length lc').ownBlock = some q) := fun ho hE q hq h => by
                                              rcases h with h | h
                                              · have := (ho.lt q hq).1; omega
                                              · exact ow_ne3 ho HOL9.out hE (by rw [hq, h]) (by rw [hq]; simp)
                                            exact ⟨own_outs h5.ov HOU.out (hne h5.ov (by decide)), h5.out, own_outs h5.ev HOU.out (hne h5.ev (by decide)), fun e he => ⟨own_outs (h5.esc e he).1 HOU.out (hne (h5.esc e he).1 (by decide)), (h5.esc e he).2⟩⟩
                                      clear h1 h2 h3
                                      obtain ⟨lv', D', rfl, k1, k2, k3, k4, k5⟩ := HP.out
                                      go_wp2
                                      go_roundw
                                      case rel => exact ⟨i + 1, _, D', by go_num, by omega, k1, k2, k3, k4, k5, HOW8⟩
                                      case measure => simp [intOf]; omega
                        · obtain rfl : i = sF.2.length := by omega
                          have hB1 : w.heap.size + 1 < wr.heap.size := by omega
                          have hzb : wr.heap[w.heap.size + 1]? = some (.cells ZARR 26 (0, 0)) := (HKP.out (w.heap.size + 1) (by omega)).trans ((HB7.out.block (w.heap.size + 1) (by omega)).trans HBZ2.out)
                          obtain ⟨ga, gc, hlv⟩ := hol.out.slice
                          rw [hlv] at hbo
                          have HOLL := Lib.hid hol.out
                          rw [hlv] at HOLL
                          have q0 : wr.cell? ⟨bq, 0, none⟩ = some (.string xn) := by rw [cell_of_row wr bq 0 _ _ _ hbo.out]; rfl
                          have q1 : wr.cell? ⟨bq, 1, none⟩ = some (.int .i64 xp) := by rw [cell_of_row wr bq 1 _ _ _ hbo.out]; rfl
                          have q2 : wr.cell? ⟨bq, 2, none⟩ = some (.slice fa xfr.length fc) := by rw [cell_of_row wr bq 2 _ _ _ hbo.out]; rfl
                          have q3 : wr.cell? ⟨bq, 3, none⟩ = some (.slice ia xin.length ic) := by rw [cell_of_row wr bq 3 _ _ _ hbo.out]; rfl
                          have q4 : wr.cell? ⟨bq, 4, none⟩ = some (.slice ga D.length gc) := by rw [cell_of_row wr bq 4 _ _ _ hbo.out]; rfl
                          have q5 : wr.cell? ⟨bq, 5, none⟩ = some (.int .i64 N5) := by rw [cell_of_row wr bq 5 _ _ _ hbo.out]; rfl
                          have q6 : wr.cell? ⟨bq, 6, none⟩ = some (.int .i64 N6) := by rw [cell_of_row wr bq 6 _ _ _ hbo.out]; rfl
                          have q7 : wr.cell? ⟨bq, 7, none⟩ = some (.int .i64 x7) := by rw [cell_of_row wr bq 7 _ _ _ hbo.out]; rfl
                          have q8 : wr.cell? ⟨bq, 8, none⟩ = some (.int .i64 x8) := by rw [cell_of_row wr bq 8 _ _ _ hbo.out]; rfl
                          have q9 : wr.cell? ⟨bq, 9, none⟩ = some (.int .i64 x9) := by rw [cell_of_row wr bq 9 _ _ _ hbo.out]; rfl
                          have z0 : wr.cell? ⟨w.heap.size + 1, 0, none⟩ = some (.string ByteArray.empty) := by rw [cell_of_row wr (w.heap.size + 1) 0 _ _ _ hzb]; rfl
                          have f0 := frozen_of_row wr (w.heap.size + 1) 0 _ _ hzb
                          have z1 : wr.cell? ⟨w.heap.size + 1, 1, none⟩ = some (.int .i64 0) := by rw [cell_of_row wr (w.heap.size + 1) 1 _ _ _ hzb]; rfl
                          have f1 := frozen_of_row wr (w.heap.size + 1) 1 _ _ hzb
                          have z2 : wr.cell? ⟨w.heap.size + 1, 2, none⟩ = some (.slice none 0 0) := by rw [cell_of_row wr (w.heap.size + 1) 2 _ _ _ hzb]; rfl
                          have f2 := frozen_of_row wr (w.heap.size + 1) 2 _ _ hzb
                          have z3 : wr.cell? ⟨w.heap.size + 1, 3, none⟩ = some (.slice none 0 0) := by rw [cell_of_row wr (w.heap.size + 1) 3 _ _ _ hzb]; rfl
                          have f3 := frozen_of_row wr (w.heap.size + 1) 3 _ _ hzb
                          have z4 : wr.cell? ⟨w.heap.size + 1, 4, none⟩ = some (.slice none 0 0) := by rw [cell_of_row wr (w.heap.size + 1) 4 _ _ _ hzb]; rfl
                          have f4 := frozen_of_row wr (w.heap.size + 1) 4 _ _ hzb
                          have z5 : wr.cell? ⟨w.heap.size + 1, 5, none⟩ = some (.int .i64 0) := by rw [cell_of_row wr (w.heap.size + 1) 5 _ _ _ hzb]; rfl
                          have f5 := frozen_of_row wr (w.heap.size + 1) 5 _ _ hzb
                          have z6 : wr.cell? ⟨w.heap.size + 1, 6, none⟩ = some (.int .i64 0) := by rw [cell_of_row wr (w.heap.size + 1) 6 _ _ _ hzb]; rfl
                          have f6 := frozen_of_row wr (w.heap.size + 1) 6 _ _ hzb
                          have z7 : wr.cell? ⟨w.heap.size + 1, 7, none⟩ = some (.int .i64 0) := by rw [cell_of_row wr (w.heap.size + 1) 7 _ _ _ hzb]; rfl
                          have f7 := frozen_of_row wr (w.heap.size + 1) 7 _ _ hzb
                          have z8 : wr.cell? ⟨w.heap.size + 1, 8, none⟩ = some (.int .i64 0) := by rw [cell_of_row wr (w.heap.size + 1) 8 _ _ _ hzb]; rfl
                          have f8 := frozen_of_row wr (w.heap.size + 1) 8 _ _ hzb
                          have z9 : wr.cell? ⟨w.heap.size + 1, 9, none⟩ = some (.int .i64 0) := by rw [cell_of_row wr (w.heap.size + 1) 9 _ _ _ hzb]; rfl
                          have f9 := frozen_of_row wr (w.heap.size + 1) 9 _ _ hzb
                          have hneq : bq ≠ w.heap.size + 1 := by omega
                          have hneg : gb ≠ w.heap.size + 1 := by omega
                          have hnb := HGR9.out.g
                          have hz10 : ZARR.size = 10 := rfl
                          have hzbH := Lib.hid hzb; have hnbH := Lib.hid hnb
                          have H46 := hbo
                          clear hzb hnb s4
                          go_wp2_with fail
                          refine region44 _ _ wr (by simp) bq (w.heap.size + 1) gb #[.string xn, .int .i64 xp, .slice fa xfr.length fc, .slice ia xin.length ic, .slice ga D.length gc, .int .i64 N5, .int .i64 N6, .int .i64 x7, .int .i64 x8, .int .i64 x9] ZARR _ _ _ (fun _ _ _ _ h => h) (by rfl) (by rfl) (by rfl) H46.out hzbH.out hnbH.out rfl hneg rfl hz10 (proc_all _ _ _ _ _ _ _ _ _ _ _ _ _ _ _ _) ?_
                          intro WF hZF hOF
                          have HZF := Lib.hid hZF
                          have HOF := Lib.hid hOF
                          clear hZF hOF
                          go_simp
                          go_wp2
                          clear q0 q1 q2 q3 q4 q5 q6 q7 q8 q9 z0 z1 z2 z3 z4 z5 z6 z7 z8 z9 f0 f1 f2 f3 f4 f5 f6 f7 f8 f9
                          have c0 : WF.cell? ⟨w.heap.size + 1, 0, none⟩ = some (.string xn) := by rw [cell_of_row WF (w.heap.size + 1) 0 _ _ _ HZF.out]; rfl
                          have c1 : WF.cell? ⟨w.heap.size + 1, 1, none⟩ = some (.int .i64 xp) := by rw [cell_of_row WF (w.heap.size + 1) 1 _ _ _ HZF.out]; rfl
                          have c2 : WF.cell? ⟨w.heap.size + 1, 2, none⟩ = some (.slice fa xfr.length fc) := by rw [cell_of_row WF (w.heap.size + 1) 2 _ _ _ HZF.out]; rfl
                          have c3 : WF.cell? ⟨w.heap.size + 1, 3, none⟩ = some (.slice ia xin.length ic) := by rw [cell_of_row WF (w.heap.size + 1) 3 _ _ _ HZF.out]; rfl
                          have c4 : WF.cell? ⟨w.heap.size + 1, 4, none⟩ = some (.slice ga D.length gc) := by rw [cell_of_row WF (w.heap.size + 1) 4 _ _ _ HZF.out]; rfl
                          have c5 : WF.cell? ⟨w.heap.size + 1, 5, none⟩ = some (.int .i64 N5) := by rw [cell_of_row WF (w.heap.size + 1) 5 _ _ _ HZF.out]; rfl
                          have c6 : WF.cell? ⟨w.heap.size + 1, 6, none⟩ = some (.int .i64 N6) := by rw [cell_of_row WF (w.heap.size + 1) 6 _ _ _ HZF.out]; rfl
                          have c7 : WF.cell? ⟨w.heap.size + 1, 7, none⟩ = some (.int .i64 x7) := by rw [cell_of_row WF (w.heap.size + 1) 7 _ _ _ HZF.out]; rfl
                          have c8 : WF.cell? ⟨w.heap.size + 1, 8, none⟩ = some (.int .i64 x8) := by rw [cell_of_row WF (w.heap.size + 1) 8 _ _ _ HZF.out]; rfl
                          have c9 : WF.cell? ⟨w.heap.size + 1, 9, none⟩ = some (.int .i64 x9) := by rw [cell_of_row WF (w.heap.size + 1) 9 _ _ _ HZF.out]; rfl
                          have HBF : Hid (Below w.heap.size w WF) := HBw9.out.trans (HOF.out.below (by have := HBw9.out.size; omega) (fun k h => by omega))
                          have HBF2 : Hid (Below w2.heap.size w2 wr) := HB7.out.trans (HB9.out.mono hz7)
                          have HNF : Hid (Ow WF w.heap.size 3 1 iEnc nv4 sF.1) := (HGR9.out.n.outs HOF.out (fun k h1 h2 => by omega)).base (by omega)
                          have HLF : Hid (Ow WF W8.heap.size 36 7 LoD.enc (.slice ga D.length gc) D) := HOLL.out.outs HOF.out (fun k h1 h2 => by omega)
                          have HRF : Hid (∀ t ∈ D, t.rd WF) := fun t ht => ((hrd.out t ht).outs HOF.out (fun k h1 h2 => by omega)).rd HBF.out
                          rw [hnv] at HNF
                          refine bodyPost_ret (v := .tuple #[.agg #[.string xn, .int .i64 xp, .slice fa xfr.length fc, .slice ia xin.length ic, .slice ga D.length gc, .int .i64 N5, .int .i64 N6, .int .i64 x7, .int .i64 x8, .int .i64 x9], .slice (some ⟨bn, on, none⟩) sF.1.length cn, .int .i64 0]) (by simp [results, Try.results5, go_sem, *]) rfl ?_
                          rw [← HPP.out]
                          refine ⟨⟨xn, xp, .slice fa xfr.length fc, .slice ia xin.length ic, .slice ga D.length gc, N5, N6, x7, x8, x9, xfr, xin, D⟩, _, rfl, ⟨HX.out.fv.keep HBF.out, HX.out.iv.keep HBF.out, sl_of_ow HLF.out, HRF.out⟩, ?_, ?_, HBF.out⟩
                          · have hsw := HSW.out
                            have hlen : D.length = sF.2.length := hdl.out
                            refine ⟨rfl, rfl, ?_, ?_, rfl, rfl, rfl, rfl, rfl, ?_, ?_⟩
                            · show N5 = (stW _ more).1.getD ((p5 : Int)).toNat default
                              rw [← hsw, Int.toNat_natCast]
                              exact HN5.out.symm
                            · show N6 = (stW _ more).1.getD ((p6 : Int)).toNat default
                              rw [← hsw, Int.toNat_natCast]
                              exact HN6.out.symm
                            · show D.length = ((stW _ more).2.map _).length
                              rw [← hsw, List.length_map]
                              exact hlen
                            · intro q hq
                              have h := hal.out q (by rw [← hlen]; exact hq)
                              show LoA (D.getD q default) (((stW _ more).2.map fun i => renL (stW _ more).1 (xlo.getD i.toNat default)).getD q default)
                              rw [← hsw, map_getD _ _ q (by rw [← hlen]; exact hq)]
                              exact h
                          · rw [← HSW.out]
                            exact HNF.out
end Go.Proofs.Ytioacgjggogflab

/- Part of the proof of SyntaxLooseCardSaid (KP KQ). -/
import Derived.Test.YthkebhjaaikopaaGreatDoorM26
import Derived.Test.YthkebhjaaikopaaGreatDoorM25
set_option maxHeartbeats 8000000
set_option linter.unusedSimpArgs false
set_option linter.unusedVariables false
namespace Go.Proofs.YthkebhjaaikopaaGreatDoor
open Go.ChangeShapes Go.WideShapes Go.ChangeAt Go.RowKit Go.Deep Go.Joins Go.Instr
set_option maxRecDepth 100000 in
theorem lR (dp : Nat) (hd : dp ≤ 16) (hC : dp < 16 → ld (dp + 1)) (hO : dp < 16 → rD (dp + 1)) : ld dp := by
 intro Γ xb la ln lc at1 e w h; have H := qd h; have HC := qd hC; have HR := qd hO; obtain ⟨PP, hPP⟩ : ∃ PP, PP = rB Γ w xb la ln lc at1 dp := ⟨_, rfl⟩; rw [← hPP]; have HPP := qd hPP; have c0 := h.c0; have c1 := h.c1; have c2 := h.c2; have c3 := h.c3; have f2 := h.free 2; have hxl := h.lt; have hn := h.n; have hpl := h.ple; clear h hPP hC hO
 by_cases he : e = 0
 · subst he
   by_cases hk : at1 < ln
   · obtain ⟨b, off, y, rfl, hb, hy, d0, d1, d2, d3, d4⟩ := H.out.view.tokAt H.out.good hk; obtain ⟨y0, y1, y2, y3, y4⟩ := y; simp only at d0 d1 d2 d3 d4; clear hy; have hk1 : ¬ ((ln : Int) ≤ (at1 : Int)) := by omega
     have hk2 : (at1 : Int) < (ln : Int) := by omega
     have hk3 : decide ((ln : Int) ≤ (at1 : Int)) = false := by simp; omega
     by_cases hd16 : dp = 16
     · have hd1 : ((dp : Int) == 16) = true := by rw [beq_iff_eq]; omega
       have HZ := qd ((H.out.below br.drew).set2 7 (by decide)); have HOZ : Hid (am (fun j => j = xb) w (w.drew.setCell ⟨xb, 2, none⟩ (.int .i64 7))) := aw (am.of_below br.drew) (bz _ xb 2 _); clear hd16; go_enter Tryz.func199, Tryz.ntmps199; go_wp2_with fail; refine aj (z := 1000) (S := fun w' : World => w'.cell? ⟨xb, 2, none⟩ = some (.int .i64 0) ∧ w'.cell? ⟨xb, 1, none⟩ = some (.int .i64 at1) ∧ w'.cell? ⟨xb, 0, none⟩ = some (.slice (some ⟨b, off, none⟩) ln lc)) (by kernel_rfl) ⟨c2, c1, c0⟩ (fun hHeld => ?_); refine wt 0 (.pointer (some ⟨xb, 0, none⟩)) ?_; simp only [pu]; refine wt 1 (.pointer (some ⟨xb, 0, none⟩)) ?_; simp only [pu]; refine wt 2 (.pointer (some ⟨xb, 2, none⟩)) ?_; simp only [pu]; refine wt 3 (.int .i64 0) ?_; simp only [pu]; refine wt 4 (.bool true) ?_; simp only [pu]; refine wt 5 (.bool true) ?_; simp only [pu]; refine wt 6 (.pointer (some ⟨xb, 0, none⟩)) ?_; simp only [pu]; refine wt 7 (.pointer (some ⟨xb, 0, none⟩)) ?_; simp only [pu]; refine wt 8 (.pointer (some ⟨xb, 1, none⟩)) ?_; simp only [pu]; refine wt 9 (.int .i64 at1) ?_; simp only [pu]; refine wt 10 (.pointer (some ⟨xb, 0, none⟩)) ?_; simp only [pu]; refine wt 11 (.pointer (some ⟨xb, 0, none⟩)) ?_; simp only [pu]; refine wt 12 (.pointer (some ⟨xb, 0, none⟩)) ?_; simp only [pu]; refine wt 13 (.slice (some ⟨b, off, none⟩) ln lc) ?_; simp only [pu]; refine wt 14 (.int .i64 ln) ?_; simp only [pu]; refine wt 15 (.bool false) ?_; simp only [pu]; refine wt 16 (.bool false) ?_; simp only [pu]; refine aK ?_; clear hHeld; simp only [List.getElem_toArray, List.getElem_cons_succ, List.getElem_cons_zero, pu]; go_wp2_with fail; rw [HPP.out]; exact ⟨_, at1, 7, rfl, HZ.out, Nat.le_refl _, HOZ.out⟩
     · have hd1 : ((dp : Int) == 16) = false := by rw [beq_eq_false_iff_ne]; omega
       have hdl : dp < 16 := by omega
       clear hd16; go_enter Tryz.func199, Tryz.ntmps199; go_wp2_with fail; refine aj (z := 1000) (S := fun w' : World => w'.cell? ⟨xb, 2, none⟩ = some (.int .i64 0) ∧ w'.cell? ⟨xb, 1, none⟩ = some (.int .i64 at1) ∧ w'.cell? ⟨xb, 0, none⟩ = some (.slice (some ⟨b, off, none⟩) ln lc)) (by kernel_rfl) ⟨c2, c1, c0⟩ (fun hHeld => ?_); refine wt 0 (.pointer (some ⟨xb, 0, none⟩)) ?_; simp only [pu]; refine wt 1 (.pointer (some ⟨xb, 0, none⟩)) ?_; simp only [pu]; refine wt 2 (.pointer (some ⟨xb, 2, none⟩)) ?_; simp only [pu]; refine wt 3 (.int .i64 0) ?_; simp only [pu]; refine wt 4 (.bool true) ?_; simp only [pu]; refine wt 5 (.bool true) ?_; simp only [pu]; refine wt 6 (.pointer (some ⟨xb, 0, none⟩)) ?_; simp only [pu]; refine wt 7 (.pointer (some ⟨xb, 0, none⟩)) ?_; simp only [pu]; refine wt 8 (.pointer (some ⟨xb, 1, none⟩)) ?_; simp only [pu]; refine wt 9 (.int .i64 at1) ?_; simp only [pu]; refine wt 10 (.pointer (some ⟨xb, 0, none⟩)) ?_; simp only [pu]; refine wt 11 (.pointer (some ⟨xb, 0, none⟩)) ?_; simp only [pu]; refine wt 12 (.pointer (some ⟨xb, 0, none⟩)) ?_; simp only [pu]; refine wt 13 (.slice (some ⟨b, off, none⟩) ln lc) ?_; simp only [pu]; refine wt 14 (.int .i64 ln) ?_; simp only [pu]; refine wt 15 (.bool false) ?_; simp only [pu]; refine wt 16 (.bool false) ?_; simp only [pu]; refine aK ?_; clear hHeld; simp only [List.getElem_toArray, List.getElem_cons_succ, List.getElem_cons_zero, pu]; go_wp2_with fail; go_region
       all_goals
        generalize hW2 : (w.alloc (.cells #[.int .i64 y0, .int .i64 y1, .int .i64 y2, .string y3, .int .i64 y4] 31)).drew.drew = w2; have HB2 : Hid (Below w.heap.size w w2) := by rw [← hW2]; exact (br.alloc (Nat.le_refl _) _).drew.drew
        have k2 : w2.heap[w.heap.size]? = some (.cells #[.int .i64 y0, .int .i64 y1, .int .i64 y2, .string y3, .int .i64 y4] 31 (0, 0)) := by rw [← hW2]; exact al w _
        have H2 := qd (H.out.below HB2.out); clear hW2 c0 c1 c2 c3 f2 d0 d1 d2 d3 d4; have c1 := H2.out.c1; have c3 := H2.out.c3; have f1 := H2.out.free 1; have f3 := H2.out.free 3; have hx2 := H2.out.lt; have hx1 := hxl
        go_upto_region 11 with fail
        generalize hW3 : World.setCell (World.setCell w2 _ _) _ _ = w3; have H3 : Hid (Sx Γ w3 xb (some ⟨b, off, none⟩) ln lc (at1 + 1) 0 (dp + 1)) := by
         rw [← hW3]; exact (H2.out.set1 (at1 + 1) (by omega)).set3 (dp + 1)
        have HO3 : Hid (am (fun j => j = xb) w w3) := by
         rw [← hW3]; exact aw (aw (am.of_below HB2.out) (bz _ xb 1 _)) (bz _ xb 3 _)
        have k3 : w3.heap[w.heap.size]? = some (.cells #[.int .i64 y0, .int .i64 y1, .int .i64 y2, .string y3, .int .i64 y4] 31 (0, 0)) := by
         rw [← hW3]; exact (Below.heap_setCell _ _ _ _ (by simp; omega)).trans ((Below.heap_setCell _ _ _ _ (by simp; omega)).trans k2)
        clear hW3 c1 c3 f1 f3 k2 hx2; obtain ⟨d0, d1, d2, d3, d4⟩ := cF k3; have hs3 := af k3; go_wp2_with fail; refine (bI ⟨y0, y1, y2, y3, y4⟩ _ w3).mono ?_; rintro r w4 ⟨⟨b1, rfl⟩, h4⟩; have H4 := qd (H3.out.below h4); have HO4 : Hid (am (fun j => j = xb) w w4) := aw HO3.out (am.of_below h4); have k4 := bZ h4 k3; clear h4 k3 d0 d1 d2 d3 d4 hs3; obtain ⟨d0, d1, d2, d3, d4⟩ := cF k4; have hs3 := af k4; go_wp2_with fail; refine (bI ⟨y0, y1, y2, y3, y4⟩ _ w4).mono ?_; rintro r w5 ⟨⟨b2, rfl⟩, h5⟩; have H5 := qd (H4.out.below h5); have HO5 : Hid (am (fun j => j = xb) w w5) := aw HO4.out (am.of_below h5); have k5 := bZ h5 k4; clear h5 k4 d0 d1 d2 d3 d4 hs3; obtain ⟨d0, d1, d2, d3, d4⟩ := cF k5; have hs3 := af k5
        by_cases hy2 : y0 = 2
        · subst hy2; have c3 : w5.cell? ⟨xb, 3, none⟩ = some (.int .i64 ((dp : Int) + 1)) := H5.out.c3; have f3 := H5.out.free 3; have hxl := H5.out.lt; have HZ := qd (H5.out.set3 dp); have HOZ := qd (aw HO5.out (bz w5 xb 3 (.int .i64 dp))); go_wp2_with fail; rw [HPP.out]; exact ⟨_, _, _, rfl, HZ.out, by omega, HOZ.out⟩
        · have hy2' : (y0 == 2) = false := by rw [beq_eq_false_iff_ne]; exact hy2
          by_cases hy1 : y0 = 1
          · subst hy1; have c3 : w5.cell? ⟨xb, 3, none⟩ = some (.int .i64 ((dp : Int) + 1)) := H5.out.c3; have f3 := H5.out.free 3; have hxl := H5.out.lt; have HZ := qd (H5.out.set3 dp); have HOZ := qd (aw HO5.out (bz w5 xb 3 (.int .i64 dp))); go_wp2_with fail; rw [HPP.out]; exact ⟨_, _, _, rfl, HZ.out, by omega, HOZ.out⟩
          · have hy1' : (y0 == 1) = false := by rw [beq_eq_false_iff_ne]; exact hy1
            clear hy1 hy2; cases b1 with
            | true =>
              go_wp2_with fail; refine (HC.out hdl Γ xb (some ⟨b, off, none⟩) ln lc (at1 + 1) 0 w5 H5.out).mono ?_; rintro r w6 ⟨v6, at6, e6, rfl, h1, h2, h3⟩; have H6 := qd h1; have HO6 : Hid (am (fun j => j = xb) w w6) := aw HO5.out h3; clear h1 h3; go_wp2_with fail; refine (dM _ w6).mono ?_; rintro r w7 ⟨⟨v7, rfl⟩, h7⟩; have H7 := qd (H6.out.below h7); have HO7 : Hid (am (fun j => j = xb) w w7) := aw HO6.out (am.of_below h7); clear h7; have c3 : w7.cell? ⟨xb, 3, none⟩ = some (.int .i64 ((dp : Int) + 1)) := H7.out.c3; have f3 := H7.out.free 3; have hxl := H7.out.lt; have HZ := qd (H7.out.set3 dp); have HOZ := qd (aw HO7.out (bz w7 xb 3 (.int .i64 dp))); go_wp2_with fail; rw [HPP.out]; exact ⟨_, _, _, rfl, HZ.out, by omega, HOZ.out⟩
            | false =>
              cases b2 with
              | true =>
                go_wp2_with fail; refine (HR.out hdl Γ xb (some ⟨b, off, none⟩) ln lc (at1 + 1) 0 w5 H5.out).mono ?_; rintro r w6 ⟨v6, at6, e6, rfl, h1, h2, h3⟩; have H6 := qd h1; have HO6 : Hid (am (fun j => j = xb) w w6) := aw HO5.out h3; clear h1 h3; go_wp2_with fail; refine (fv _ w6 H6.out).mono ?_; rintro r w7 ⟨b7, at7, rfl, h1, h3, h4, h5⟩; have hat7 : at6 ≤ at7 := by cases b7 with
                 | true => have := h3 rfl; omega
                 | false => have := h4 rfl; omega
                have H7 := qd h1; have HO7 : Hid (am (fun j => j = xb) w w7) := aw HO6.out h5; clear h1 h3 h4 h5; have c2 := H7.out.c2
                by_cases he6 : e6 = 0
                · subst he6; cases b7 with
                  | true =>
                    have c3 : w7.cell? ⟨xb, 3, none⟩ = some (.int .i64 ((dp : Int) + 1)) := H7.out.c3; have f3 := H7.out.free 3; have hxl := H7.out.lt; have HZ := qd (H7.out.set3 dp); have HOZ := qd (aw HO7.out (bz w7 xb 3 (.int .i64 dp))); go_wp2_with fail; rw [HPP.out]; exact ⟨_, _, _, rfl, HZ.out, by omega, HOZ.out⟩
                  | false =>
                    have f2 := H7.out.free 2; have H8 := qd (H7.out.set2 6 (by decide)); have HO8 := qd (aw HO7.out (bz w7 xb 2 (.int .i64 6))); have hxl7 := H7.out.lt
                    go_upto_region 24 with fail
                    generalize w7.setCell ⟨xb, 2, none⟩ (.int .i64 6) = w8 at H8 HO8 ⊢; have c3 : w8.cell? ⟨xb, 3, none⟩ = some (.int .i64 ((dp : Int) + 1)) := H8.out.c3; have f3 := H8.out.free 3; have hxl := H8.out.lt; have HZ := qd (H8.out.set3 dp); have HOZ := qd (aw HO8.out (bz w8 xb 3 (.int .i64 dp))); go_wp2_with fail; rw [HPP.out]; exact ⟨_, _, _, rfl, HZ.out, by omega, HOZ.out⟩
                · have he6' : (e6 == 0) = false := by rw [beq_eq_false_iff_ne]; exact he6
                  have c3 : w7.cell? ⟨xb, 3, none⟩ = some (.int .i64 ((dp : Int) + 1)) := H7.out.c3; have f3 := H7.out.free 3; have hxl := H7.out.lt; have HZ := qd (H7.out.set3 dp); have HOZ := qd (aw HO7.out (bz w7 xb 3 (.int .i64 dp))); go_wp2_with fail; rw [HPP.out]; exact ⟨_, _, _, rfl, HZ.out, by omega, HOZ.out⟩
              | false =>
                have c2 := H5.out.c2; have f2 := H5.out.free 2; have H8 := qd (H5.out.set2 6 (by decide)); have HO8 := qd (aw HO5.out (bz w5 xb 2 (.int .i64 6))); have hxl5 := H5.out.lt
                go_upto_region 24 with fail
                generalize w5.setCell ⟨xb, 2, none⟩ (.int .i64 6) = w8 at H8 HO8 ⊢; clear c2 f2 d0 d1 d2 d3 d4 k5 hs3; have c3 : w8.cell? ⟨xb, 3, none⟩ = some (.int .i64 ((dp : Int) + 1)) := H8.out.c3; have f3 := H8.out.free 3; have hxl := H8.out.lt; have HZ := qd (H8.out.set3 dp); have HOZ := qd (aw HO8.out (bz w8 xb 3 (.int .i64 dp))); go_wp2_with fail; rw [HPP.out]; exact ⟨_, _, _, rfl, HZ.out, by omega, HOZ.out⟩
   · have hk1 : (ln : Int) ≤ (at1 : Int) := by omega
     have HZ := qd ((H.out.below br.drew).set2 6 (by decide)); have HOZ : Hid (am (fun j => j = xb) w (w.drew.setCell ⟨xb, 2, none⟩ (.int .i64 6))) := aw (am.of_below br.drew) (bz _ xb 2 _); go_enter Tryz.func199, Tryz.ntmps199; go_wp2_with fail; refine aj (z := 1000) (S := fun w' : World => w'.cell? ⟨xb, 2, none⟩ = some (.int .i64 0) ∧ w'.cell? ⟨xb, 1, none⟩ = some (.int .i64 at1) ∧ w'.cell? ⟨xb, 0, none⟩ = some (.slice la ln lc)) (by kernel_rfl) ⟨c2, c1, c0⟩ (fun hHeld => ?_); refine wt 0 (.pointer (some ⟨xb, 0, none⟩)) ?_; simp only [pu]; refine wt 1 (.pointer (some ⟨xb, 0, none⟩)) ?_; simp only [pu]; refine wt 2 (.pointer (some ⟨xb, 2, none⟩)) ?_; simp only [pu]; refine wt 3 (.int .i64 0) ?_; simp only [pu]; refine wt 4 (.bool true) ?_; simp only [pu]; refine wt 5 (.bool true) ?_; simp only [pu]; refine wt 6 (.pointer (some ⟨xb, 0, none⟩)) ?_; simp only [pu]; refine wt 7 (.pointer (some ⟨xb, 0, none⟩)) ?_; simp only [pu]; refine wt 8 (.pointer (some ⟨xb, 1, none⟩)) ?_; simp only [pu]; refine wt 9 (.int .i64 at1) ?_; simp only [pu]; refine wt 10 (.pointer (some ⟨xb, 0, none⟩)) ?_; simp only [pu]; refine wt 11 (.pointer (some ⟨xb, 0, none⟩)) ?_; simp only [pu]; refine wt 12 (.pointer (some ⟨xb, 0, none⟩)) ?_; simp only [pu]; refine wt 13 (.slice la ln lc) ?_; simp only [pu]; refine wt 14 (.int .i64 ln) ?_; simp only [pu]; refine wt 15 (.bool true) ?_; simp only [pu]; refine wt 16 (.bool true) ?_; simp only [pu]; refine aK ?_; clear hHeld; simp only [List.getElem_toArray, List.getElem_cons_succ, List.getElem_cons_zero, pu]; go_wp2_with fail; rw [HPP.out]; exact ⟨_, at1, 6, rfl, HZ.out, Nat.le_refl _, HOZ.out⟩
 · have he' : (e == 0) = false := by rw [beq_eq_false_iff_ne]; exact he
   go_enter Tryz.func199, Tryz.ntmps199; go_wp2_with fail; refine aj (z := 1000) (S := fun w' : World => w'.cell? ⟨xb, 2, none⟩ = some (.int .i64 e)) (by kernel_rfl) c2 (fun hHeld => ?_); refine wt 0 (.pointer (some ⟨xb, 0, none⟩)) ?_; simp only [pu]; refine wt 1 (.pointer (some ⟨xb, 0, none⟩)) ?_; simp only [pu]; refine wt 2 (.pointer (some ⟨xb, 2, none⟩)) ?_; simp only [pu]; refine wt 3 (.int .i64 e) ?_; simp only [pu]; refine wt 4 (.bool false) ?_; simp only [pu]; refine wt 5 (.bool false) ?_; simp only [pu]; refine wu 6 ?_; simp only [pu]; refine wu 7 ?_; simp only [pu]; refine wu 8 ?_; simp only [pu]; refine wu 9 ?_; simp only [pu]; refine wu 10 ?_; simp only [pu]; refine wu 11 ?_; simp only [pu]; refine wu 12 ?_; simp only [pu]; refine wu 13 ?_; simp only [pu]; refine wu 14 ?_; simp only [pu]; refine wu 15 ?_; simp only [pu]; refine wt 16 (.bool false) ?_; simp only [pu]; refine aK ?_; clear hHeld; simp only [List.getElem_toArray, List.getElem_cons_succ, List.getElem_cons_zero, pu]; go_wp2_with fail; rw [HPP.out]; exact ⟨_, at1, e, rfl, H.out.below br.drew, Nat.le_refl _, am.of_below br.drew⟩
theorem kE : ∀ (m dp : Nat), dp + m = 16 → ld dp
 | 0, dp, h => lR dp (by omega) (fun h' => absurd h' (by omega)) (fun h' => absurd h' (by omega))
 | m + 1, dp, h => lR dp (by omega) (fun _ => kE m (dp + 1) (by omega)) (fun _ => oD (dp + 1) (my (dp + 1) (jx (dp + 1) (kE m (dp + 1) (by omega)))))
theorem tA : rD 0 := oD 0 (my 0 (jx 0 (kE 16 0 (by omega))))
end Go.Proofs.YthkebhjaaikopaaGreatDoor
set_option linter.unusedSimpArgs false
set_option linter.unusedVariables false
namespace Go.Proofs.YthkebhjaaikopaaGreatDoor
open Go.ChangeShapes Go.WideShapes Go.ChangeAt Go.RowKit Go.Deep Go.Joins Go.Instr
theorem ai.outsBox {Γ0 Γ : Gh} {w0 w w' : World} {xb : Nat} (h : ai Γ0 w0 Γ w) (ho : am (fun k => k = xb) w w') (hb : w0.heap.size ≤ xb) : ai Γ0 w0 Γ w' := ⟨h.le, h.new, h.outs.trans ho fun x hx => .inr (by omega)⟩
set_option maxRecDepth 100000 in
theorem sm {Γ : Gh} {wb : Nat} (a : Option Addr) (c : Nat) (l : List ay) (at0 : Int) (w : World) (h : In Γ w wb) (hl : Fx Γ w a c l) (hn : l.length ≤ 999990) (ha : dC at0) :
 Calls Tryz.prog 91 #[.pointer (some ⟨wb, 0, none⟩), .slice a l.length c, .int .i64 at0] w (cC Γ w wb) := by
 have H := qd h; have HL := qd hl; have HA := qd ha; obtain ⟨PP, hPP⟩ : ∃ PP, PP = cC Γ w wb := ⟨_, rfl⟩; rw [← hPP]; have HPP := qd hPP; have HFL : Hid (∀ (Γ1 : Gh) (w1 : World) (x : Int), In Γ1 w1 wb → ai Γ w Γ1 w1 → dC x → x ≠ 0 → Calls Tryz.prog 39 #[.pointer (some ⟨wb, 0, none⟩), .int .i64 x, .int .i64 at0] w1 fun r w' => r = .returned (.tuple #[]) ∧ PP (.returned (.tuple #[])) w') := fun Γ1 w1 x h1 h2 h3 h4 => (aB x at0 w1 h1 h3 ha h4).mono fun r w' hr => ⟨hr.1, by rw [HPP.out]; exact cC.of_fails h2 ⟨rfl, hr.2⟩⟩
 clear h hl hPP ha; go_enter Tryz.func91, Tryz.ntmps91; go_wp2_with fail; refine (l8 a c l w H.out HL.out hn).mono ?_; rintro r w1 ⟨Γ1, v1, n1, ok, rfl, h1, h2, h3, h4⟩; obtain ⟨a1, c1, rfl⟩ := h3.slice; have HI1 := qd h1; have HT1 := qd h2; have HR1 := qd h3; clear h1 h2 h3; cases ok with
 | false =>
   go_wp2_with fail; refine (HFL.out Γ1 w1 6 HI1.out HT1.out (by decide) (by decide)).mono ?_; rintro r w9 ⟨rfl, h9⟩; have H9 := qd h9; clear h9; go_wp2_with fail
   go_end0
   exact H9.out
 | true =>
   go_wp2_with fail; refine (iX 16 0 (by omega) Γ1 wb a1 n1 c1 w1 HI1.out HR1.out.view h4).mono ?_; rintro r w2 ⟨Γ2, v2, n2, rfl, h1, h2, h3, h5⟩; obtain ⟨a2, cp2, rfl⟩ := h3.slice; have HI2 := qd h1; have HT2 : Hid (ai Γ w Γ2 w2) := HT1.out.trans h2; have HR2 := qd h3; have hn2 : n2 ≤ 139400 := by omega
   clear h1 h2 h3 h5; obtain ⟨inl, ma, mn, mc, ca, cn, cc, u, oa, on, oc, e, at1, hf⟩ := HI2.out.fields; have c5 := hf.c5; have hwb2 := HI2.out.lt; clear hf
   by_cases he : e = 0
   · subst he
     go_upto_region 6 with fail
     generalize hW3 : World.alloc w2 _ = w3; have HB3 : Hid (Below w2.heap.size w2 w3) := by rw [← hW3]; exact br.alloc (Nat.le_refl _) _
     have k3 : w3.heap[w2.heap.size]? = some (.cells #[.slice a2 n2 cp2, .int .i64 0, .int .i64 0, .int .i64 0] 159 (0, 0)) := by rw [← hW3]; exact al w2 _
     have HS3 : Hid (Sx Γ2 w3 w2.heap.size a2 n2 cp2 0 0 0) := ⟨k3, HI2.out.good.below HB3.out, (Bx.of_new (Γ := Γ2) HI2.out.good (Nat.le_refl _) k3).2, HR2.out.view, by omega, Nat.zero_le _, by decide⟩; have HT3 : Hid (ai Γ w Γ2 w3) := HT2.out.trans (ai.of_below HB3.out); have hxs : w.heap.size ≤ w2.heap.size := HT2.out.outs.size; have HI3 : Hid (In Γ2 w3 wb) := HI2.out.below HB3.out; clear hW3 k3 c5 hwb2; generalize w2.heap.size = xb at HS3 hxs ⊢; go_wp2_with fail; refine (tA Γ2 xb a2 n2 cp2 0 0 w3 HS3.out).mono ?_; rintro r w4 ⟨v4, at4, e4, rfl, h1, h2, h3⟩; have HS4 := qd h1; have HT4 : Hid (ai Γ w Γ2 w4) := HT3.out.outsBox h3 hxs; have HI4 : Hid (In Γ2 w4 wb) := ⟨h1.good, HI3.out.at1⟩; have c0 := h1.c0; have c1 := h1.c1; have c2 := h1.c2; have f2 := h1.free 2; have hxl := h1.lt; have hpl := h1.ple; clear h1 h2 h3; have HI5 : Hid (In Γ2 w4.drew wb) := HI4.out.drew; have HT5 : Hid (ai Γ w Γ2 w4.drew) := HT4.out.trans (ai.of_below br.drew)
     by_cases he4 : e4 = 0
     · subst he4
       by_cases hat : at4 = n2
       · subst hat; go_wp2_with fail; refine aj (z := 1000) (S := fun w' : World => w'.cell? ⟨xb, 2, none⟩ = some (.int .i64 0) ∧ w'.cell? ⟨xb, 1, none⟩ = some (.int .i64 at4) ∧ w'.cell? ⟨xb, 0, none⟩ = some (.slice a2 at4 cp2)) (by kernel_rfl) ⟨c2, c1, c0⟩ (fun hHeld => ?_); refine wt 0 (.pointer (some ⟨xb, 0, none⟩)) ?_; simp only [pu]; refine wt 1 (.pointer (some ⟨xb, 0, none⟩)) ?_; simp only [pu]; refine wt 2 (.pointer (some ⟨xb, 2, none⟩)) ?_; simp only [pu]; refine wt 3 (.int .i64 0) ?_; simp only [pu]; refine wt 4 (.bool true) ?_; simp only [pu]; refine wt 5 (.bool true) ?_; simp only [pu]; refine wt 6 (.pointer (some ⟨xb, 0, none⟩)) ?_; simp only [pu]; refine wt 7 (.pointer (some ⟨xb, 0, none⟩)) ?_; simp only [pu]; refine wt 8 (.pointer (some ⟨xb, 1, none⟩)) ?_; simp only [pu]; refine wt 9 (.int .i64 at4) ?_; simp only [pu]; refine wt 10 (.pointer (some ⟨xb, 0, none⟩)) ?_; simp only [pu]; refine wt 11 (.pointer (some ⟨xb, 0, none⟩)) ?_; simp only [pu]; refine wt 12 (.pointer (some ⟨xb, 0, none⟩)) ?_; simp only [pu]; refine wt 13 (.slice a2 at4 cp2) ?_; simp only [pu]; refine wt 14 (.int .i64 at4) ?_; simp only [pu]; refine wt 15 (.bool false) ?_; simp only [pu]; refine wt 16 (.bool false) ?_; simp only [pu]; refine aK ?_; clear hHeld; simp only [List.getElem_toArray, List.getElem_cons_succ, List.getElem_cons_zero, pu]; go_wp2_with fail; refine (iD _ at0 w4.drew HI5.out HA.out).mono ?_; rintro r w9 ⟨Γ9, rfl, h1, h2⟩; have H9 := qd h1; have HT9 : Hid (ai Γ w Γ9 w9) := HT5.out.trans h2; clear h1 h2; go_wp2_with fail
         go_end0
         rw [HPP.out]; exact ⟨Γ9, rfl, H9.out, HT9.out⟩
       · have hat1 : ((at4 : Int) == (n2 : Int)) = false := by rw [beq_eq_false_iff_ne]; omega
         have hat2 : ¬ ((at4 : Int) = (n2 : Int)) := by omega
         have HX6 := qd ((HS4.out.below br.drew).set2 6 (by decide)); have HT6 : Hid (ai Γ w Γ2 (w4.drew.setCell ⟨xb, 2, none⟩ (.int .i64 6))) := HT5.out.outsBox (bz _ xb 2 _) hxs; have HI6 : Hid (In Γ2 (w4.drew.setCell ⟨xb, 2, none⟩ (.int .i64 6)) wb) := ⟨HX6.out.good, HI5.out.at1⟩; go_wp2_with fail; refine aj (z := 1000) (S := fun w' : World => w'.cell? ⟨xb, 2, none⟩ = some (.int .i64 0) ∧ w'.cell? ⟨xb, 1, none⟩ = some (.int .i64 at4) ∧ w'.cell? ⟨xb, 0, none⟩ = some (.slice a2 n2 cp2)) (by kernel_rfl) ⟨c2, c1, c0⟩ (fun hHeld => ?_); refine wt 0 (.pointer (some ⟨xb, 0, none⟩)) ?_; simp only [pu]; refine wt 1 (.pointer (some ⟨xb, 0, none⟩)) ?_; simp only [pu]; refine wt 2 (.pointer (some ⟨xb, 2, none⟩)) ?_; simp only [pu]; refine wt 3 (.int .i64 0) ?_; simp only [pu]; refine wt 4 (.bool true) ?_; simp only [pu]; refine wt 5 (.bool true) ?_; simp only [pu]; refine wt 6 (.pointer (some ⟨xb, 0, none⟩)) ?_; simp only [pu]; refine wt 7 (.pointer (some ⟨xb, 0, none⟩)) ?_; simp only [pu]; refine wt 8 (.pointer (some ⟨xb, 1, none⟩)) ?_; simp only [pu]; refine wt 9 (.int .i64 at4) ?_; simp only [pu]; refine wt 10 (.pointer (some ⟨xb, 0, none⟩)) ?_; simp only [pu]; refine wt 11 (.pointer (some ⟨xb, 0, none⟩)) ?_; simp only [pu]; refine wt 12 (.pointer (some ⟨xb, 0, none⟩)) ?_; simp only [pu]; refine wt 13 (.slice a2 n2 cp2) ?_; simp only [pu]; refine wt 14 (.int .i64 n2) ?_; simp only [pu]; refine wt 15 (.bool true) ?_; simp only [pu]; refine wt 16 (.bool true) ?_; simp only [pu]; refine aK ?_; clear hHeld; simp only [List.getElem_toArray, List.getElem_cons_succ, List.getElem_cons_zero, pu]; go_wp2_with fail; refine (HFL.out Γ2 _ 6 HI6.out HT6.out (by decide) (by decide)).mono ?_; rintro r w9 ⟨rfl, h9⟩; have H9 := qd h9; clear h9; go_wp2_with fail
         go_end0
         exact H9.out
     · have he4' : (e4 == 0) = false := by rw [beq_eq_false_iff_ne]; exact he4
       have HE4 := qd he4; go_wp2_with fail; refine aj (z := 1000) (S := fun w' : World => w'.cell? ⟨xb, 2, none⟩ = some (.int .i64 e4)) (by kernel_rfl) c2 (fun hHeld => ?_); refine wt 0 (.pointer (some ⟨xb, 0, none⟩)) ?_; simp only [pu]; refine wt 1 (.pointer (some ⟨xb, 0, none⟩)) ?_; simp only [pu]; refine wt 2 (.pointer (some ⟨xb, 2, none⟩)) ?_; simp only [pu]; refine wt 3 (.int .i64 e4) ?_; simp only [pu]; refine wt 4 (.bool false) ?_; simp only [pu]; refine wt 5 (.bool false) ?_; simp only [pu]; refine wu 6 ?_; simp only [pu]; refine wu 7 ?_; simp only [pu]; refine wu 8 ?_; simp only [pu]; refine wu 9 ?_; simp only [pu]; refine wu 10 ?_; simp only [pu]; refine wu 11 ?_; simp only [pu]; refine wu 12 ?_; simp only [pu]; refine wu 13 ?_; simp only [pu]; refine wu 14 ?_; simp only [pu]; refine wu 15 ?_; simp only [pu]; refine wt 16 (.bool false) ?_; simp only [pu]; refine aK ?_; clear hHeld; simp only [List.getElem_toArray, List.getElem_cons_succ, List.getElem_cons_zero, pu]; go_wp2_with fail; refine (HFL.out Γ2 w4.drew e4 HI5.out HT5.out HS4.out.ok HE4.out).mono ?_; rintro r w9 ⟨rfl, h9⟩; have H9 := qd h9; clear h9; go_wp2_with fail
       go_end0
       exact H9.out
   · have he' : (e == 0) = false := by rw [beq_eq_false_iff_ne]; exact he
     go_wp2_with fail
     go_end0
     rw [HPP.out]; exact ⟨Γ2, rfl, HI2.out, HT2.out⟩
end Go.Proofs.YthkebhjaaikopaaGreatDoor

/- Part of the proof of SyntaxLooseCardSaid (KW). -/
import Derived.Test.YthkebhjaaikopaaGreatDoorM30
set_option maxHeartbeats 8000000
set_option linter.unusedSimpArgs false
set_option linter.unusedVariables false
namespace Go.Proofs.YthkebhjaaikopaaGreatDoor
open Go.ChangeShapes Go.WideShapes Go.ChangeAt Go.RowKit Go.Deep Go.Joins Go.Instr
def td (Γ : Gh) (w : World) (wb n at1 : Nat) (r : Ending) (w' : World) : Prop := ∃ (Γ' : Gh) (nx : Nat), r = .returned (.int .i64 nx) ∧ In Γ' w' wb ∧ ai Γ w Γ' w' ∧ at1 < nx ∧ nx ≤ n
set_option maxRecDepth 100000 in
theorem iY {Γ : Gh} {wb : Nat} (a : Option Addr) (c at1 : Nat) (l : List ay) (w : World) (h : In Γ w wb) (hl : Fx Γ w a c l) (hn : l.length ≤ 900000) (hat : at1 < l.length) :
 Calls Tryz.prog 41 #[.pointer (some ⟨wb, 0, none⟩), .slice a l.length c, .int .i64 at1] w (td Γ w wb l.length at1) := by
 have H := qd h; have HL := qd hl; obtain ⟨PP, hPP⟩ : ∃ PP, PP = td Γ w wb l.length at1 := ⟨_, rfl⟩; rw [← hPP]; have HPP := qd hPP; obtain ⟨b, off, t, rfl, hb, het, ht, _, _, _, _, _⟩ := hl.tokAt hat; have HTA := qd het; obtain ⟨z0, z1, z2, z3, z4⟩ := t; have HZ : Hid (dC z1) := ht.2.2.1; have hcap := hl.cap; clear h hl hPP het ht; have ha1 : (at1 : Int) < (l.length : Int) := by omega
 go_enter Tryz.func41, Tryz.ntmps41
 go_upto_region 2 with fail
 generalize hW1 : World.alloc w _ = w1; have HB1 : Hid (Below w.heap.size w w1) := by rw [← hW1]; exact br.alloc (Nat.le_refl _) _
 have k1 : w1.heap[w.heap.size]? = some (.cells #[.string ⟨#[]⟩, .bool true, .slice none 0 0, .slice none 0 0] 116 (0, 0)) := by rw [← hW1]; exact al w _
 have HM1 := qd (Bx.of_new (Γ := Γ) H.out.good (Nat.le_refl _) k1); have HI1 : Hid (In Γ w1 wb) := H.out.below HB1.out; have HT1 : Hid (ai Γ w Γ w1) := ai.of_below HB1.out; clear hW1 k1
 by_cases h3 : at1 + 3 < l.length
 · have hi1 : (at1 : Int) + 3 < (l.length : Int) := by omega
   have hi2 : (at1 : Int) + 1 < (l.length : Int) := by omega
   have hi3 : (at1 : Int) + 2 < (l.length : Int) := by omega
   obtain ⟨b', off', t, hbe, hb1, het, ht, d0, d1, d2, d3, d4⟩ := (HL.out.turn HT1.out).tokAt (i := at1 + 1) (by omega); obtain ⟨rfl, rfl⟩ : b = b' ∧ off = off' := by simpa using hbe
   obtain ⟨n0, n1, n2, n3, n4⟩ := t; simp only at d0 d1 d2 d3 d4; clear hbe het ht
   by_cases hk : n0 = 1
   · have hk' : (n0 == 1) = true := by rw [beq_iff_eq]; exact hk
     have HK := qd hk; clear hk; obtain ⟨b', off', t, hbe, hb2, het, ht, e0, e1, e2, e3, e4⟩ := (HL.out.turn HT1.out).tokAt (i := at1 + 2) (by omega); obtain ⟨rfl, rfl⟩ : b = b' ∧ off = off' := by simpa using hbe
     obtain ⟨p0, p1, p2, p3, p4⟩ := t; simp only at e0 e1 e2 e3 e4; clear hbe het ht; go_wp2_with fail; refine (bI ⟨p0, p1, p2, p3, p4⟩ _ w1).mono ?_; rintro r w2 ⟨⟨b2, rfl⟩, h2⟩; have HI2 : Hid (In Γ w2 wb) := HI1.out.below h2; have HT2 : Hid (ai Γ w Γ w2) := HT1.out.trans (ai.of_below h2); have HM2 := qd (HM1.out.below h2); have q3 := (h2.cell (p := ⟨b, off + (at1 + 1) * 5 + 3, none⟩) hb1).trans d3; clear h2 d0 d1 d2 d3 d4 e0 e1 e2 e3 e4; cases b2 with
     | false =>
       obtain ⟨b', off', t, hbe, hbz, het, ht, z0c, z1c, z2c, z3c, z4c⟩ := (HL.out.turn HT2.out).tokAt (i := at1) hat; obtain ⟨rfl, rfl⟩ : b = b' ∧ off = off' := by simpa using hbe
       rw [HTA.out] at het; subst het; simp only at z1c; clear z0c z2c z3c z4c hbe ht; go_wp2_with fail; refine (aB 6 z1 w2 HI2.out (by decide) HZ.out (by decide)).mono ?_; rintro r w9 ⟨rfl, h1, h2, _⟩; have HZ9 : Hid (PP (.returned (.int .i64 l.length)) w9) := by
        unfold Hid; rw [HPP.out]; exact ⟨_, l.length, rfl, h1, HT2.out.trans h2, hat, Nat.le_refl _⟩
       clear h1 h2; go_wp2_with fail; exact HZ9.out
     | true =>
       have hm2 := af HM2.out.1; obtain ⟨m0, m1, m2, m3⟩ := dz HM2.out.1; have y0 := frozen_of_row w2 w.heap.size 0 _ _ HM2.out.1
       go_upto_region 5 with fail
       generalize hW3 : World.setCell w2 _ _ = w3; have HM3 : Hid (Bx Γ w3 w.heap.size (.cells #[.string n3, .bool true, .slice none 0 0, .slice none 0 0] 116 (0, 0))) := by
        rw [← hW3]; exact HM2.out.set 0 (.string n3)
       have HT3 : Hid (ai Γ w Γ w3) := by rw [← hW3]; exact HT2.out.box (Nat.le_refl _) 0 _
       have HI3 : Hid (In Γ w3 wb) := ⟨by rw [← hW3]; exact HI2.out.good.box HM2.out.2 0 _, HI2.out.at1⟩; clear hW3 m0 m1 m2 m3 y0 q3 hm2; go_wp2_with fail; refine (jJ (some ⟨b, off, none⟩) c (at1 + 3) l w3 HI3.out.good (HL.out.turn HT3.out) (by omega) (by omega)).mono ?_; rintro r w4 ⟨Γ4, pv, pk, nx, fine, rfl, h1, h2, h4, h5, h6⟩; obtain ⟨pa, pc, rfl, hpv⟩ := h4; have HP4 : Hid (ci Γ4 .str (.slice pa pk pc) pk) := ⟨pa, pc, rfl, hpv⟩; have HI4 : Hid (In Γ4 w4 wb) := HI3.out.turn h1 h2; have HT4 : Hid (ai Γ w Γ4 w4) := HT3.out.trans h2; have HM4 := qd (HM3.out.turn h2); clear h1 h2 hpv; have hm4 := af HM4.out.1; obtain ⟨m0, m1, m2, m3⟩ := dz HM4.out.1; have y2 := frozen_of_row w4 w.heap.size 2 _ _ HM4.out.1
       go_upto_region 7 with fail
       generalize hW5 : World.setCell w4 _ _ = w5; have HM5 : Hid (Bx Γ4 w5 w.heap.size (.cells #[.string n3, .bool true, .slice pa pk pc, .slice none 0 0] 116 (0, 0))) := by
        rw [← hW5]; exact HM4.out.set 2 (.slice pa pk pc)
       have HT5 : Hid (ai Γ w Γ4 w5) := by rw [← hW5]; exact HT4.out.box (Nat.le_refl _) 2 _
       have HI5 : Hid (In Γ4 w5 wb) := ⟨by rw [← hW5]; exact HI4.out.good.box HM4.out.2 2 _, HI4.out.at1⟩; clear hW5 m0 m1 m2 m3 y2 hm4
       by_cases hfx : fine = true ∧ nx < l.length
       · obtain ⟨rfl, hx2⟩ := hfx; obtain ⟨hx0, _⟩ := h6 (by first | trivial | rfl); obtain ⟨x, rfl⟩ : ∃ x : Nat, nx = x := ⟨nx.toNat, by omega⟩; have hx3 : x < l.length := by omega
         clear h6; obtain ⟨b', off', t, hbe, hb1, het, ht, d0, d1, d2, d3, d4⟩ := (HL.out.turn HT5.out).tokAt (i := x) hx3; obtain ⟨rfl, rfl⟩ : b = b' ∧ off = off' := by simpa using hbe
         obtain ⟨p0, p1, p2, p3, p4⟩ := t; simp only at d0 d1 d2 d3 d4; clear hbe het ht; go_wp2_with fail; refine (bI ⟨p0, p1, p2, p3, p4⟩ _ w5).mono ?_; rintro r w6 ⟨⟨b6, rfl⟩, h2⟩; have HI6 : Hid (In Γ4 w6 wb) := HI5.out.below h2; have HT6 : Hid (ai Γ w Γ4 w6) := HT5.out.trans (ai.of_below h2); have HM6 := qd (HM5.out.below h2); clear h2 d0 d1 d2 d3 d4; cases b6 with
         | false =>
           obtain ⟨b', off', t, hbe, hbz, het, ht, z0c, z1c, z2c, z3c, z4c⟩ := (HL.out.turn HT6.out).tokAt (i := at1) hat; obtain ⟨rfl, rfl⟩ : b = b' ∧ off = off' := by simpa using hbe
           rw [HTA.out] at het; subst het; simp only at z1c; clear z0c z2c z3c z4c hbe ht; go_wp2_with fail; refine wp_loop_rounds 1 ?_; rw [rounds_succ]; go_wp2_with fail; refine (aB 6 z1 w6 HI6.out (by decide) HZ.out (by decide)).mono ?_; rintro r w9 ⟨rfl, h1, h2, _⟩; have HZ9 : Hid (PP (.returned (.int .i64 l.length)) w9) := by
            unfold Hid; rw [HPP.out]; exact ⟨_, l.length, rfl, h1, HT6.out.trans h2, hat, Nat.le_refl _⟩
           clear h1 h2; go_wp2_with fail; exact HZ9.out
         | true =>
           go_wp2_with fail
           go_loopw [12, 13] (fun dv i wr => ∃ (Γr : Gh) (k : Nat) (dd : Int) (ba : Option Addr) (bn bc : Nat), i = .int .i64 k ∧ x + 1 ≤ k ∧ k ≤ l.length ∧ dv = .int .i64 dd ∧ -(k : Int) ≤ dd ∧ dd ≤ k ∧ bn ≤ k ∧ Hid (Rw Γr .tok (.slice ba bn bc) bn) ∧ Hid (Bx Γr wr w.heap.size (.cells #[.string n3, .bool true, .slice pa pk pc, .slice ba bn bc] 116 (0, 0))) ∧ Hid (In Γr wr wb) ∧ Hid (ai Γ w Γr wr) ∧ Hid (Γ4.le Γr)) (fun _ i _ => l.length + 1 - (intOf i).toNat)
           case atStart => exact ⟨Γ4, x + 1, 1, none, 0, 0, by go_num, by omega, by omega, rfl, by omega, by omega, by omega, Rw.nil _ _, HM6, HI6, HT6, Gh.le.refl _⟩
           case round =>
            obtain ⟨Γr, k, dd, ba, bn, bc, rfl, hk1, hk2, rfl, hd1, hd2, hbn, hR, hM, hI, hT, hLe⟩ := hrel
            by_cases hkl : k < l.length
            · obtain ⟨b', off', t, hbe, hb1, het, ht, d0, d1, d2, d3, d4⟩ := (HL.out.turn hT.out).tokAt (i := k) hkl; obtain ⟨rfl, rfl⟩ : b = b' ∧ off = off' := by simpa using hbe
              obtain ⟨p0, p1, p2, p3, p4⟩ := t; simp only at d0 d1 d2 d3 d4; have HTK := qd ht; clear hbe het ht; have hk3 : (k : Int) < (l.length : Int) := by omega
              go_wp2_with fail; refine (bI ⟨p0, p1, p2, p3, p4⟩ _ wr).mono ?_; rintro r w7 ⟨⟨b7, rfl⟩, h2⟩; have HB7 := qd h2; have hs7 := h2.size; have e0 := (h2.cell (p := ⟨b, off + k * 5, none⟩) hb1).trans d0; have e1 := (h2.cell (p := ⟨b, off + k * 5 + 1, none⟩) hb1).trans d1; have e2 := (h2.cell (p := ⟨b, off + k * 5 + 2, none⟩) hb1).trans d2; have e3 := (h2.cell (p := ⟨b, off + k * 5 + 3, none⟩) hb1).trans d3; have e4 := (h2.cell (p := ⟨b, off + k * 5 + 4, none⟩) hb1).trans d4; clear h2 d0 d1 d2 d3 d4; go_wp2_with fail; refine (bI ⟨p0, p1, p2, p3, p4⟩ _ w7).mono ?_; rintro r w8 ⟨⟨b8, rfl⟩, h2⟩; have HB8 : Hid (Below wr.heap.size wr w8) := HB7.out.trans (h2.mono HB7.out.size); have hb8 : b < w8.heap.size := by have := HB8.out.size; omega
              have d0 := (h2.cell (p := ⟨b, off + k * 5, none⟩) (by show b < w7.heap.size; omega)).trans e0; have d1 := (h2.cell (p := ⟨b, off + k * 5 + 1, none⟩) (by show b < w7.heap.size; omega)).trans e1; have d2 := (h2.cell (p := ⟨b, off + k * 5 + 2, none⟩) (by show b < w7.heap.size; omega)).trans e2; have d3 := (h2.cell (p := ⟨b, off + k * 5 + 3, none⟩) (by show b < w7.heap.size; omega)).trans e3; have d4 := (h2.cell (p := ⟨b, off + k * 5 + 4, none⟩) (by show b < w7.heap.size; omega)).trans e4; have HI8 : Hid (In Γr w8 wb) := hI.out.below HB8.out; have HT8 : Hid (ai Γ w Γr w8) := hT.out.trans (ai.of_below HB8.out); have HM8 := qd (hM.out.below HB8.out); clear h2 e0 e1 e2 e3 e4 hs7 HB7; obtain ⟨m0, m1, m2, m3⟩ := dz HM8.out.1; have hm8 := af HM8.out.1; have y3 := frozen_of_row w8 w.heap.size 3 _ _ HM8.out.1; have HE5 : Hid (∀ j, j < Rl.tok.sz → (#[Value.int .i64 p0, .int .i64 p1, .int .i64 p2, .string p3, .int .i64 p4] : Array Value)[j]? = some (ay.enc ⟨p0, p1, p2, p3, p4⟩ j)) := dx ⟨p0, p1, p2, p3, p4⟩; cases b7 with
              | true =>
                cases b8 with
                | true =>
                  by_cases hz : dd = 0
                  · obtain rfl : dd = 0 := by omega
                    clear d0 d1 d2 d3 d4; obtain ⟨inl, ma, mn, mc, ca, cn, cc, u, oa9, on9, oc9, e9, at9, hf⟩ := HI8.out.fields; go_wp2_with fail; refine (cB n3 w8 HI8.out hf).mono ?_; rintro r w9 ⟨⟨q, rfl, hq1, hq2⟩, h9⟩; have HI9 : Hid (In Γr w9 wb) := HI8.out.below h9; have HT9 : Hid (ai Γ w Γr w9) := HT8.out.trans (ai.of_below h9); have HM9 := qd (HM8.out.below h9); clear h9 hf m0 m1 m2 m3 hm8 y3
                    by_cases hq0 : q = -1
                    · subst hq0; obtain ⟨m0, m1, m2, m3⟩ := dz HM9.out.1; have hm9 := af HM9.out.1; go_wp2_with fail; refine (em n3 true pa pk pc ba bn bc w9 HI9.out ((HP4.out.le hLe.out)) h5 (fun h => by cases h) hR.out.view (by omega)).mono ?_; rintro r w10 ⟨Γ10, ok10, rfl, h1, h2⟩; have HI10 := qd h1; have HT10 : Hid (ai Γ w Γ10 w10) := HT9.out.trans h2; clear h1 h2 m0 m1 m2 m3 hm9; cases ok10 with
                      | true =>
                        go_wp2_with fail; rw [HPP.out]; exact ⟨Γ10, k + 1, rfl, HI10.out, HT10.out, by omega, by omega⟩
                      | false =>
                        obtain ⟨b', off', t, hbe, hbz, het, ht, z0c, z1c, z2c, z3c, z4c⟩ := (HL.out.turn HT10.out).tokAt (i := at1) hat; obtain ⟨rfl, rfl⟩ : b = b' ∧ off = off' := by simpa using hbe
                        rw [HTA.out] at het; subst het; simp only at z1c; clear z0c z2c z3c z4c hbe ht; go_wp2_with fail; refine (aB 8 z1 w10 HI10.out (by decide) HZ.out (by decide)).mono ?_; rintro r w11 ⟨rfl, h1, h2, _⟩; have HZ9 : Hid (PP (.returned (.int .i64 ((k + 1 : Nat) : Int))) w11) := by
                         unfold Hid; rw [HPP.out]; exact ⟨_, k + 1, rfl, h1, HT10.out.trans h2, by omega, by omega⟩
                        clear h1 h2; go_wp2_with fail; exact HZ9.out
                    · have hq0' : (0 : Int) ≤ q := by omega
                      obtain ⟨b', off', t, hbe, hbz, het, ht, z0c, z1c, z2c, z3c, z4c⟩ := (HL.out.turn HT9.out).tokAt (i := at1) hat; obtain ⟨rfl, rfl⟩ : b = b' ∧ off = off' := by simpa using hbe
                      rw [HTA.out] at het; subst het; simp only at z1c; clear z0c z2c z3c z4c hbe ht; go_wp2_with fail; refine (aB 6 z1 w9 HI9.out (by decide) HZ.out (by decide)).mono ?_; rintro r w9 ⟨rfl, h1, h2, _⟩; have HZ9 : Hid (PP (.returned (.int .i64 l.length)) w9) := by
                       unfold Hid; rw [HPP.out]; exact ⟨_, l.length, rfl, h1, HT9.out.trans h2, hat, Nat.le_refl _⟩
                      clear h1 h2; go_wp2_with fail; exact HZ9.out
                  · have hz' : (dd == 0) = false := by rw [beq_eq_false_iff_ne]; exact hz
                    go_wp2_with fail
                    go_region_law ((refine cu (HI8.out.drew.good.below (br.alloc (Nat.le_refl _) _)) aX rfl (.tmp 123) (.tmp 128) rfl (.slice ba bn bc) bn rfl hR.out ⟨w8.heap.size, 0, none⟩ 1 1 rfl (aC (f := ay.enc ⟨p0, p1, p2, p3, p4⟩) (al _ _) ⟨_, fun _ _ => rfl, HTK.out⟩ HE5.out) (by omega) (by omega) ?_; intro g7 c7 w10 Γ10 q1 q2 q3 _ _ _; have hM10 := (HM8.out.below (((Below.refl w8.heap.size w8).drew).alloc (Nat.le_refl _) (.cells #[.int .i64 p0, .int .i64 p1, .int .i64 p2, .string p3, .int .i64 p4] 31))).turn q2; have x10 := (dz hM10.1).2.2.2; have z10 := frozen_of_row w10 w.heap.size 3 _ _ hM10.1))
                    all_goals
                     have hq := (ai.of_below (Γ := Γr) (((Below.refl w8.heap.size w8).drew).alloc (Nat.le_refl _) (.cells #[.int .i64 p0, .int .i64 p1, .int .i64 p2, .string p3, .int .i64 p4] 31))).trans q2; have HM11 := qd (hM10.set 3 (.slice (some ⟨g7, 0, none⟩) (bn + 1) c7)); have HT11 : Hid (∀ u, ai Γ w Γ10 (w10.setCell ⟨w.heap.size, 3, none⟩ u)) := fun u => (HT8.out.trans hq).box (Nat.le_refl _) 3 u
                     have HI11 : Hid (∀ u, In Γ10 (w10.setCell ⟨w.heap.size, 3, none⟩ u) wb) := fun u => ⟨q1.box hM10.2 3 u, (HI8.out.turn q1 hq).at1⟩
                     have HLe11 : Hid (Γ4.le Γ10) := hLe.out.trans hq.le; have HR11 := qd q3; clear q1 q2 q3 hq hM10; go_wp2_with fail; go_roundw
                     case rel => exact ⟨Γ10, k + 1, _, _, bn + 1, c7, by go_num, by omega, by omega, rfl, by omega, by omega, by omega, HR11, HM11, HI11.out _, HT11.out _, HLe11⟩
                     case measure => simp [intOf]; omega
                | false =>
                  by_cases hz : dd + 1 = 0
                  · obtain rfl : dd = -1 := by omega
                    clear d0 d1 d2 d3 d4; obtain ⟨inl, ma, mn, mc, ca, cn, cc, u, oa9, on9, oc9, e9, at9, hf⟩ := HI8.out.fields; go_wp2_with fail; refine (cB n3 w8 HI8.out hf).mono ?_; rintro r w9 ⟨⟨q, rfl, hq1, hq2⟩, h9⟩; have HI9 : Hid (In Γr w9 wb) := HI8.out.below h9; have HT9 : Hid (ai Γ w Γr w9) := HT8.out.trans (ai.of_below h9); have HM9 := qd (HM8.out.below h9); clear h9 hf m0 m1 m2 m3 hm8 y3
                    by_cases hq0 : q = -1
                    · subst hq0; obtain ⟨m0, m1, m2, m3⟩ := dz HM9.out.1; have hm9 := af HM9.out.1; go_wp2_with fail; refine (em n3 true pa pk pc ba bn bc w9 HI9.out ((HP4.out.le hLe.out)) h5 (fun h => by cases h) hR.out.view (by omega)).mono ?_; rintro r w10 ⟨Γ10, ok10, rfl, h1, h2⟩; have HI10 := qd h1; have HT10 : Hid (ai Γ w Γ10 w10) := HT9.out.trans h2; clear h1 h2 m0 m1 m2 m3 hm9; cases ok10 with
                      | true =>
                        go_wp2_with fail; rw [HPP.out]; exact ⟨Γ10, k + 1, rfl, HI10.out, HT10.out, by omega, by omega⟩
                      | false =>
                        obtain ⟨b', off', t, hbe, hbz, het, ht, z0c, z1c, z2c, z3c, z4c⟩ := (HL.out.turn HT10.out).tokAt (i := at1) hat; obtain ⟨rfl, rfl⟩ : b = b' ∧ off = off' := by simpa using hbe
                        rw [HTA.out] at het; subst het; simp only at z1c; clear z0c z2c z3c z4c hbe ht; go_wp2_with fail; refine (aB 8 z1 w10 HI10.out (by decide) HZ.out (by decide)).mono ?_; rintro r w11 ⟨rfl, h1, h2, _⟩; have HZ9 : Hid (PP (.returned (.int .i64 ((k + 1 : Nat) : Int))) w11) := by
                         unfold Hid; rw [HPP.out]; exact ⟨_, k + 1, rfl, h1, HT10.out.trans h2, by omega, by omega⟩
                        clear h1 h2; go_wp2_with fail; exact HZ9.out
                    · have hq0' : (0 : Int) ≤ q := by omega
                      obtain ⟨b', off', t, hbe, hbz, het, ht, z0c, z1c, z2c, z3c, z4c⟩ := (HL.out.turn HT9.out).tokAt (i := at1) hat; obtain ⟨rfl, rfl⟩ : b = b' ∧ off = off' := by simpa using hbe
                      rw [HTA.out] at het; subst het; simp only at z1c; clear z0c z2c z3c z4c hbe ht; go_wp2_with fail; refine (aB 6 z1 w9 HI9.out (by decide) HZ.out (by decide)).mono ?_; rintro r w9 ⟨rfl, h1, h2, _⟩; have HZ9 : Hid (PP (.returned (.int .i64 l.length)) w9) := by
                       unfold Hid; rw [HPP.out]; exact ⟨_, l.length, rfl, h1, HT9.out.trans h2, hat, Nat.le_refl _⟩
                      clear h1 h2; go_wp2_with fail; exact HZ9.out
                  · have hz' : (dd + 1 == 0) = false := by rw [beq_eq_false_iff_ne]; exact hz
                    go_wp2_with fail
                    go_region_law ((refine cu (HI8.out.drew.good.below (br.alloc (Nat.le_refl _) _)) aX rfl (.tmp 123) (.tmp 128) rfl (.slice ba bn bc) bn rfl hR.out ⟨w8.heap.size, 0, none⟩ 1 1 rfl (aC (f := ay.enc ⟨p0, p1, p2, p3, p4⟩) (al _ _) ⟨_, fun _ _ => rfl, HTK.out⟩ HE5.out) (by omega) (by omega) ?_; intro g7 c7 w10 Γ10 q1 q2 q3 _ _ _; have hM10 := (HM8.out.below (((Below.refl w8.heap.size w8).drew).alloc (Nat.le_refl _) (.cells #[.int .i64 p0, .int .i64 p1, .int .i64 p2, .string p3, .int .i64 p4] 31))).turn q2; have x10 := (dz hM10.1).2.2.2; have z10 := frozen_of_row w10 w.heap.size 3 _ _ hM10.1))
                    all_goals
                     have hq := (ai.of_below (Γ := Γr) (((Below.refl w8.heap.size w8).drew).alloc (Nat.le_refl _) (.cells #[.int .i64 p0, .int .i64 p1, .int .i64 p2, .string p3, .int .i64 p4] 31))).trans q2; have HM11 := qd (hM10.set 3 (.slice (some ⟨g7, 0, none⟩) (bn + 1) c7)); have HT11 : Hid (∀ u, ai Γ w Γ10 (w10.setCell ⟨w.heap.size, 3, none⟩ u)) := fun u => (HT8.out.trans hq).box (Nat.le_refl _) 3 u
                     have HI11 : Hid (∀ u, In Γ10 (w10.setCell ⟨w.heap.size, 3, none⟩ u) wb) := fun u => ⟨q1.box hM10.2 3 u, (HI8.out.turn q1 hq).at1⟩
                     have HLe11 : Hid (Γ4.le Γ10) := hLe.out.trans hq.le; have HR11 := qd q3; clear q1 q2 q3 hq hM10; go_wp2_with fail; go_roundw
                     case rel => exact ⟨Γ10, k + 1, _, _, bn + 1, c7, by go_num, by omega, by omega, rfl, by omega, by omega, by omega, HR11, HM11, HI11.out _, HT11.out _, HLe11⟩
                     case measure => simp [intOf]; omega
              | false =>
                cases b8 with
                | true =>
                  by_cases hz : dd - 1 = 0
                  · obtain rfl : dd = 1 := by omega
                    clear d0 d1 d2 d3 d4; obtain ⟨inl, ma, mn, mc, ca, cn, cc, u, oa9, on9, oc9, e9, at9, hf⟩ := HI8.out.fields; go_wp2_with fail; refine (cB n3 w8 HI8.out hf).mono ?_; rintro r w9 ⟨⟨q, rfl, hq1, hq2⟩, h9⟩; have HI9 : Hid (In Γr w9 wb) := HI8.out.below h9; have HT9 : Hid (ai Γ w Γr w9) := HT8.out.trans (ai.of_below h9); have HM9 := qd (HM8.out.below h9); clear h9 hf m0 m1 m2 m3 hm8 y3
                    by_cases hq0 : q = -1
                    · subst hq0; obtain ⟨m0, m1, m2, m3⟩ := dz HM9.out.1; have hm9 := af HM9.out.1; go_wp2_with fail; refine (em n3 true pa pk pc ba bn bc w9 HI9.out ((HP4.out.le hLe.out)) h5 (fun h => by cases h) hR.out.view (by omega)).mono ?_; rintro r w10 ⟨Γ10, ok10, rfl, h1, h2⟩; have HI10 := qd h1; have HT10 : Hid (ai Γ w Γ10 w10) := HT9.out.trans h2; clear h1 h2 m0 m1 m2 m3 hm9; cases ok10 with
                      | true =>
                        go_wp2_with fail; rw [HPP.out]; exact ⟨Γ10, k + 1, rfl, HI10.out, HT10.out, by omega, by omega⟩
                      | false =>
                        obtain ⟨b', off', t, hbe, hbz, het, ht, z0c, z1c, z2c, z3c, z4c⟩ := (HL.out.turn HT10.out).tokAt (i := at1) hat; obtain ⟨rfl, rfl⟩ : b = b' ∧ off = off' := by simpa using hbe
                        rw [HTA.out] at het; subst het; simp only at z1c; clear z0c z2c z3c z4c hbe ht; go_wp2_with fail; refine (aB 8 z1 w10 HI10.out (by decide) HZ.out (by decide)).mono ?_; rintro r w11 ⟨rfl, h1, h2, _⟩; have HZ9 : Hid (PP (.returned (.int .i64 ((k + 1 : Nat) : Int))) w11) := by
                         unfold Hid; rw [HPP.out]; exact ⟨_, k + 1, rfl, h1, HT10.out.trans h2, by omega, by omega⟩
                        clear h1 h2; go_wp2_with fail; exact HZ9.out
                    · have hq0' : (0 : Int) ≤ q := by omega
                      obtain ⟨b', off', t, hbe, hbz, het, ht, z0c, z1c, z2c, z3c, z4c⟩ := (HL.out.turn HT9.out).tokAt (i := at1) hat; obtain ⟨rfl, rfl⟩ : b = b' ∧ off = off' := by simpa using hbe
                      rw [HTA.out] at het; subst het; simp only at z1c; clear z0c z2c z3c z4c hbe ht; go_wp2_with fail; refine (aB 6 z1 w9 HI9.out (by decide) HZ.out (by decide)).mono ?_; rintro r w9 ⟨rfl, h1, h2, _⟩; have HZ9 : Hid (PP (.returned (.int .i64 l.length)) w9) := by
                       unfold Hid; rw [HPP.out]; exact ⟨_, l.length, rfl, h1, HT9.out.trans h2, hat, Nat.le_refl _⟩
                      clear h1 h2; go_wp2_with fail; exact HZ9.out
                  · have hz' : (dd - 1 == 0) = false := by rw [beq_eq_false_iff_ne]; exact hz
                    go_wp2_with fail
                    go_region_law ((refine cu (HI8.out.drew.good.below (br.alloc (Nat.le_refl _) _)) aX rfl (.tmp 123) (.tmp 128) rfl (.slice ba bn bc) bn rfl hR.out ⟨w8.heap.size, 0, none⟩ 1 1 rfl (aC (f := ay.enc ⟨p0, p1, p2, p3, p4⟩) (al _ _) ⟨_, fun _ _ => rfl, HTK.out⟩ HE5.out) (by omega) (by omega) ?_; intro g7 c7 w10 Γ10 q1 q2 q3 _ _ _; have hM10 := (HM8.out.below (((Below.refl w8.heap.size w8).drew).alloc (Nat.le_refl _) (.cells #[.int .i64 p0, .int .i64 p1, .int .i64 p2, .string p3, .int .i64 p4] 31))).turn q2; have x10 := (dz hM10.1).2.2.2; have z10 := frozen_of_row w10 w.heap.size 3 _ _ hM10.1))
                    all_goals
                     have hq := (ai.of_below (Γ := Γr) (((Below.refl w8.heap.size w8).drew).alloc (Nat.le_refl _) (.cells #[.int .i64 p0, .int .i64 p1, .int .i64 p2, .string p3, .int .i64 p4] 31))).trans q2; have HM11 := qd (hM10.set 3 (.slice (some ⟨g7, 0, none⟩) (bn + 1) c7)); have HT11 : Hid (∀ u, ai Γ w Γ10 (w10.setCell ⟨w.heap.size, 3, none⟩ u)) := fun u => (HT8.out.trans hq).box (Nat.le_refl _) 3 u
                     have HI11 : Hid (∀ u, In Γ10 (w10.setCell ⟨w.heap.size, 3, none⟩ u) wb) := fun u => ⟨q1.box hM10.2 3 u, (HI8.out.turn q1 hq).at1⟩
                     have HLe11 : Hid (Γ4.le Γ10) := hLe.out.trans hq.le; have HR11 := qd q3; clear q1 q2 q3 hq hM10; go_wp2_with fail; go_roundw
                     case rel => exact ⟨Γ10, k + 1, _, _, bn + 1, c7, by go_num, by omega, by omega, rfl, by omega, by omega, by omega, HR11, HM11, HI11.out _, HT11.out _, HLe11⟩
                     case measure => simp [intOf]; omega
                | false =>
                  by_cases hz : dd = 0
                  · obtain rfl : dd = 0 := by omega
                    clear d0 d1 d2 d3 d4; obtain ⟨inl, ma, mn, mc, ca, cn, cc, u, oa9, on9, oc9, e9, at9, hf⟩ := HI8.out.fields; go_wp2_with fail; refine (cB n3 w8 HI8.out hf).mono ?_; rintro r w9 ⟨⟨q, rfl, hq1, hq2⟩, h9⟩; have HI9 : Hid (In Γr w9 wb) := HI8.out.below h9; have HT9 : Hid (ai Γ w Γr w9) := HT8.out.trans (ai.of_below h9); have HM9 := qd (HM8.out.below h9); clear h9 hf m0 m1 m2 m3 hm8 y3
                    by_cases hq0 : q = -1
                    · subst hq0; obtain ⟨m0, m1, m2, m3⟩ := dz HM9.out.1; have hm9 := af HM9.out.1; go_wp2_with fail; refine (em n3 true pa pk pc ba bn bc w9 HI9.out ((HP4.out.le hLe.out)) h5 (fun h => by cases h) hR.out.view (by omega)).mono ?_; rintro r w10 ⟨Γ10, ok10, rfl, h1, h2⟩; have HI10 := qd h1; have HT10 : Hid (ai Γ w Γ10 w10) := HT9.out.trans h2; clear h1 h2 m0 m1 m2 m3 hm9; cases ok10 with
                      | true =>
                        go_wp2_with fail; rw [HPP.out]; exact ⟨Γ10, k + 1, rfl, HI10.out, HT10.out, by omega, by omega⟩
                      | false =>
                        obtain ⟨b', off', t, hbe, hbz, het, ht, z0c, z1c, z2c, z3c, z4c⟩ := (HL.out.turn HT10.out).tokAt (i := at1) hat; obtain ⟨rfl, rfl⟩ : b = b' ∧ off = off' := by simpa using hbe
                        rw [HTA.out] at het; subst het; simp only at z1c; clear z0c z2c z3c z4c hbe ht; go_wp2_with fail; refine (aB 8 z1 w10 HI10.out (by decide) HZ.out (by decide)).mono ?_; rintro r w11 ⟨rfl, h1, h2, _⟩; have HZ9 : Hid (PP (.returned (.int .i64 ((k + 1 : Nat) : Int))) w11) := by
                         unfold Hid; rw [HPP.out]; exact ⟨_, k + 1, rfl, h1, HT10.out.trans h2, by omega, by omega⟩
                        clear h1 h2; go_wp2_with fail; exact HZ9.out
                    · have hq0' : (0 : Int) ≤ q := by omega
                      obtain ⟨b', off', t, hbe, hbz, het, ht, z0c, z1c, z2c, z3c, z4c⟩ := (HL.out.turn HT9.out).tokAt (i := at1) hat; obtain ⟨rfl, rfl⟩ : b = b' ∧ off = off' := by simpa using hbe
                      rw [HTA.out] at het; subst het; simp only at z1c; clear z0c z2c z3c z4c hbe ht; go_wp2_with fail; refine (aB 6 z1 w9 HI9.out (by decide) HZ.out (by decide)).mono ?_; rintro r w9 ⟨rfl, h1, h2, _⟩; have HZ9 : Hid (PP (.returned (.int .i64 l.length)) w9) := by
                       unfold Hid; rw [HPP.out]; exact ⟨_, l.length, rfl, h1, HT9.out.trans h2, hat, Nat.le_refl _⟩
                      clear h1 h2; go_wp2_with fail; exact HZ9.out
                  · have hz' : (dd == 0) = false := by rw [beq_eq_false_iff_ne]; exact hz
                    go_wp2_with fail
                    go_region_law ((refine cu (HI8.out.drew.good.below (br.alloc (Nat.le_refl _) _)) aX rfl (.tmp 123) (.tmp 128) rfl (.slice ba bn bc) bn rfl hR.out ⟨w8.heap.size, 0, none⟩ 1 1 rfl (aC (f := ay.enc ⟨p0, p1, p2, p3, p4⟩) (al _ _) ⟨_, fun _ _ => rfl, HTK.out⟩ HE5.out) (by omega) (by omega) ?_; intro g7 c7 w10 Γ10 q1 q2 q3 _ _ _; have hM10 := (HM8.out.below (((Below.refl w8.heap.size w8).drew).alloc (Nat.le_refl _) (.cells #[.int .i64 p0, .int .i64 p1, .int .i64 p2, .string p3, .int .i64 p4] 31))).turn q2; have x10 := (dz hM10.1).2.2.2; have z10 := frozen_of_row w10 w.heap.size 3 _ _ hM10.1))
                    all_goals
                     have hq := (ai.of_below (Γ := Γr) (((Below.refl w8.heap.size w8).drew).alloc (Nat.le_refl _) (.cells #[.int .i64 p0, .int .i64 p1, .int .i64 p2, .string p3, .int .i64 p4] 31))).trans q2; have HM11 := qd (hM10.set 3 (.slice (some ⟨g7, 0, none⟩) (bn + 1) c7)); have HT11 : Hid (∀ u, ai Γ w Γ10 (w10.setCell ⟨w.heap.size, 3, none⟩ u)) := fun u => (HT8.out.trans hq).box (Nat.le_refl _) 3 u
                     have HI11 : Hid (∀ u, In Γ10 (w10.setCell ⟨w.heap.size, 3, none⟩ u) wb) := fun u => ⟨q1.box hM10.2 3 u, (HI8.out.turn q1 hq).at1⟩
                     have HLe11 : Hid (Γ4.le Γ10) := hLe.out.trans hq.le; have HR11 := qd q3; clear q1 q2 q3 hq hM10; go_wp2_with fail; go_roundw
                     case rel => exact ⟨Γ10, k + 1, _, _, bn + 1, c7, by go_num, by omega, by omega, rfl, by omega, by omega, by omega, HR11, HM11, HI11.out _, HT11.out _, HLe11⟩
                     case measure => simp [intOf]; omega
            · have hk3 : ¬ ((k : Int) < (l.length : Int)) := by omega
              have hk4 : decide ((k : Int) < (l.length : Int)) = false := decide_eq_false hk3; obtain ⟨b', off', t, hbe, hbz, het, ht, z0c, z1c, z2c, z3c, z4c⟩ := (HL.out.turn hT.out).tokAt (i := at1) hat; obtain ⟨rfl, rfl⟩ : b = b' ∧ off = off' := by simpa using hbe
              rw [HTA.out] at het; subst het; simp only at z1c; clear z0c z2c z3c z4c hbe ht; go_wp2_with fail; refine (aB 6 z1 wr hI.out (by decide) HZ.out (by decide)).mono ?_; rintro r w9 ⟨rfl, h1, h2, _⟩; have HZ9 : Hid (PP (.returned (.int .i64 l.length)) w9) := by
               unfold Hid; rw [HPP.out]; exact ⟨_, l.length, rfl, h1, hT.out.trans h2, hat, Nat.le_refl _⟩
              clear h1 h2; go_wp2_with fail; exact HZ9.out
       · have hfx1 : fine = false ∨ (fine = true ∧ ¬ (nx < (l.length : Int)) ∧ decide (nx < (l.length : Int)) = false) := by
          cases fine with
          | false => exact .inl rfl
          | true => exact .inr ⟨rfl, fun h => hfx ⟨rfl, h⟩, decide_eq_false (fun h => hfx ⟨rfl, h⟩)⟩
         clear hfx h6; rcases hfx1 with rfl | ⟨rfl, hfx2, hfx3⟩
         all_goals
          obtain ⟨b', off', t, hbe, hbz, het, ht, z0c, z1c, z2c, z3c, z4c⟩ := (HL.out.turn HT5.out).tokAt (i := at1) hat; obtain ⟨rfl, rfl⟩ : b = b' ∧ off = off' := by simpa using hbe
          rw [HTA.out] at het; subst het; simp only at z1c; clear z0c z2c z3c z4c hbe ht; go_wp2_with fail; refine wp_loop_rounds 1 ?_; rw [rounds_succ]; go_wp2_with fail; refine (aB 6 z1 w5 HI5.out (by decide) HZ.out (by decide)).mono ?_; rintro r w9 ⟨rfl, h1, h2, _⟩; have HZ9 : Hid (PP (.returned (.int .i64 l.length)) w9) := by
           unfold Hid; rw [HPP.out]; exact ⟨_, l.length, rfl, h1, HT5.out.trans h2, hat, Nat.le_refl _⟩
          clear h1 h2; go_wp2_with fail; exact HZ9.out
   · have hk' : (n0 == 1) = false := by rw [beq_eq_false_iff_ne]; exact hk
     obtain ⟨b', off', t, hbe, hbz, het, ht, z0c, z1c, z2c, z3c, z4c⟩ := (HL.out.turn HT1.out).tokAt (i := at1) hat; obtain ⟨rfl, rfl⟩ : b = b' ∧ off = off' := by simpa using hbe
     rw [HTA.out] at het; subst het; simp only at z1c; clear z0c z2c z3c z4c hbe ht; go_wp2_with fail; refine (aB 6 z1 w1 HI1.out (by decide) HZ.out (by decide)).mono ?_; rintro r w9 ⟨rfl, h1, h2, _⟩; have HZ9 : Hid (PP (.returned (.int .i64 l.length)) w9) := by
      unfold Hid; rw [HPP.out]; exact ⟨_, l.length, rfl, h1, HT1.out.trans h2, hat, Nat.le_refl _⟩
     clear h1 h2; go_wp2_with fail; exact HZ9.out
 · have hi1 : ¬ ((at1 : Int) + 3 < (l.length : Int)) := by omega
   have hi2 : decide ((at1 : Int) + 3 < (l.length : Int)) = false := decide_eq_false hi1; obtain ⟨b', off', t, hbe, hbz, het, ht, z0c, z1c, z2c, z3c, z4c⟩ := (HL.out.turn HT1.out).tokAt (i := at1) hat; obtain ⟨rfl, rfl⟩ : b = b' ∧ off = off' := by simpa using hbe
   rw [HTA.out] at het; subst het; simp only at z1c; clear z0c z2c z3c z4c hbe ht; go_wp2_with fail; refine (aB 6 z1 w1 HI1.out (by decide) HZ.out (by decide)).mono ?_; rintro r w9 ⟨rfl, h1, h2, _⟩; have HZ9 : Hid (PP (.returned (.int .i64 l.length)) w9) := by
    unfold Hid; rw [HPP.out]; exact ⟨_, l.length, rfl, h1, HT1.out.trans h2, hat, Nat.le_refl _⟩
   clear h1 h2; go_wp2_with fail; exact HZ9.out
end Go.Proofs.YthkebhjaaikopaaGreatDoor

/- Part of the proof of SyntaxLooseCardSaid (KX KY). -/
import Derived.Test.YthkebhjaaikopaaGreatDoorM31
import Derived.Test.YthkebhjaaikopaaGreatDoorM05
set_option maxHeartbeats 8000000
set_option linter.unusedSimpArgs false
set_option linter.unusedVariables false
namespace Go.Proofs.YthkebhjaaikopaaGreatDoor
open Go.ChangeShapes Go.WideShapes Go.ChangeAt Go.RowKit Go.Deep Go.Joins Go.Instr
def eW (w : World) (wb : Nat) : Nat := match w.cell? ⟨wb, 5, none⟩ with
 | some (.int _ n) => if n = 0 then 1 else 0
 | _ => 0
theorem oP (w : World) (wb : Nat) : eW w wb ≤ 1 := by
 unfold eW
 split
 · split <;> omega
 · omega
theorem sX {w : World} {wb : Nat} {n : Int} (h : w.cell? ⟨wb, 5, none⟩ = some (.int .i64 n)) : eW w wb = if n = 0 then 1 else 0 := by
 unfold eW; rw [h]
theorem Fe.whole {Γ : Gh} {w : World} {b off c : Nat} {ts : List ay} {e : ay} (h : Fe Γ w b off c ts e) : Fx Γ w (some ⟨b, off, none⟩) c ts := by
 have := h.sub (lo := 0) (hi := ts.length) (Nat.zero_le _) (Nat.le_refl _); simpa using this
set_option maxRecDepth 100000 in
theorem lY (b off c : Nat) (ts : List ay) (e : ay) (w : World) (hl : Fe G0 w b off c ts e) (hn : ts.length ≤ 900000) :
 Calls Tryz.prog 15 #[.slice (some ⟨b, off, none⟩) (ts.length + 1) c] w (j5 w e) := by
 have HL := qd hl; have hcap := hl.cap; obtain ⟨PP, hPP⟩ : ∃ PP, PP = j5 w e := ⟨_, rfl⟩; rw [← hPP]; have HPP := qd hPP; have HEA := qd hl.ea; clear hl hPP; go_enter Tryz.func15, Tryz.ntmps15; go_wp2_with fail; refine (iz _ (ts ++ [e]) w HL.out.sl).mono ?_; rintro r w1 ⟨⟨b1, rfl⟩, h1⟩; have HB1 := qd h1; clear h1; cases b1 with
 | false =>
   go_wp2_with fail; rw [HPP.out]; exact ⟨_, 16, 0, rfl, HB1.out, fun h => by cases h⟩
 | true =>
   go_upto_region 5 with fail
   generalize hW2 : World.alloc w1 _ = w2; obtain ⟨Γ1, HI2, HT2⟩ : ∃ Γ1, Hid (In Γ1 w2 w1.heap.size) ∧ Hid (ai G0 w Γ1 w2) := by
    obtain ⟨g1, g2, g3⟩ := (jQ w1).new (r := .work) (f := fun j => (#[Value.bool true, .slice none 0 0, .slice none 0 0, .int .i64 0, .slice none 0 0, .int .i64 0, .int .i64 0] : Array Value).getD j undef) ⟨true, 0, 0, 0, rfl, ⟨0, Rw.nil _ _, by omega⟩, ⟨0, Rw.nil _ _, by omega⟩, rfl, by decide, ⟨0, Rw.nil _ _, by omega⟩, rfl, by decide, rfl, by decide⟩ (cs := #[.bool true, .slice none 0 0, .slice none 0 0, .int .i64 0, .slice none 0 0, .int .i64 0, .int .i64 0]) rfl (fun j hj => by
     match j, hj with
     | 0, _ => rfl
     | 1, _ => rfl
     | 2, _ => rfl
     | 3, _ => rfl
     | 4, _ => rfl
     | 5, _ => rfl
     | 6, _ => rfl
     | q + 7, hj => exact absurd hj (by simp [Rl.sz]))
    exact ⟨_, ⟨by rw [← hW2]; exact g1, Gh.set_same _ _ _⟩, by rw [← hW2]; exact (ai.of_below HB1.out).trans g2⟩
   clear hW2; generalize w1.heap.size = wb at HI2 ⊢; go_wp2_with fail
   go_loopw [7, 8, 10] (fun o dv i wr => ∃ (Γr : Gh) (k on : Nat) (oa : Option Addr) (oc : Nat) (dd : Int), i = .int .i64 k ∧ k ≤ ts.length ∧ o = .slice oa on oc ∧ on ≤ k ∧ dv = .int .i64 dd ∧ -(k : Int) ≤ dd ∧ dd ≤ k ∧ Hid (Rw Γr .tok (.slice oa on oc) on) ∧ Hid (In Γr wr wb) ∧ Hid (ai G0 w Γr wr)) (fun _ _ i wr => 2 * (ts.length + 1 - (intOf i).toNat) + eW wr wb)
   case atStart => exact ⟨Γ1, 0, 0, none, 0, 0, rfl, by omega, rfl, by omega, rfl, by omega, by omega, Rw.nil _ _, HI2, HT2⟩
   case round =>
    obtain ⟨Γr, k, on, oa, oc, dd, rfl, hk, rfl, hon, rfl, hd1, hd2, hR, hI, hT⟩ := hrel; obtain ⟨inl, ma, mn, mc, ca, cn, cc, u, oa2, on2, oc2, er, at1, hf⟩ := hI.out.fields; have c5 := hf.c5; have hwb := hI.out.lt; clear hf; have HEr : Hid (Fe Γr wr b off c ts e) := HL.out.turn hT.out
    by_cases hkn : k < ts.length ∧ er = 0
    · obtain ⟨hk1, rfl⟩ := hkn; have hew : Hid (eW wr wb = 1) := by unfold Hid; rw [sX c5]; rfl
      obtain ⟨t, het, d0, d1, d2, d3, d4⟩ := HEr.out.tokAt (i := k) (by omega); obtain ⟨t0, t1, t2, t3, t4⟩ := t; simp only at d0 d1 d2 d3 d4; have HTK : Hid (dt ⟨t0, t1, t2, t3, t4⟩) := by
       have := HEr.out.ok k hk1; rw [← dE (e := e) hk1, het] at this; exact this
      clear het; have hbl := HEr.out.lt; have hk2 : (k : Int) < (ts.length : Int) := by omega
      have hk3 : (k : Int) < (ts.length : Int) + 1 := by omega
      by_cases hdd : dd ≤ 0
      · by_cases h1 : t0 = 1
        · have h1' : (t0 == 1) = true := by rw [beq_iff_eq]; exact h1
          by_cases hw : t3 = ⟨#[105, 110, 108, 105, 110, 101]⟩
          · subst hw; subst h1; clear h1'; go_wp2_with fail; refine (fh oa on oc wr hI.out (hR.out.view) (by omega)).mono ?_; rintro r w6 ⟨Γ6, rfl, h1, h2⟩; have HI6 := qd h1; have HT6 : Hid (ai G0 w Γ6 w6) := hT.out.trans h2; have HE6 := qd (HL.out.turn HT6.out); clear h1 h2; obtain ⟨inl6, ma6, mn6, mc6, ca6, cn6, cc6, u6, oa6, on6, oc6, er6, at6, hf6⟩ := HI6.out.fields; have c56 := hf6.c5; have hwb6 := HI6.out.lt; clear hf6; have hew6 : Hid (eW w6 wb = if er6 = 0 then 1 else 0) := sX c56
            by_cases he6 : er6 = 0
            · subst he6; have hcl : ts.length ≤ c := by omega
              have hnc : (ts.length : Int) ≤ (c : Int) := by omega
              have hnc2 : (ts.length : Int) ≤ (ts.length : Int) + 1 := by omega
              have hcz : ¬ (c = 0) := by omega
              go_wp2_with fail; refine (iY (some ⟨b, off, none⟩) c k ts w6 HI6.out HE6.out.whole (by omega) hk1).mono ?_; rintro r w7 ⟨Γ7, nx, rfl, h1, h2, h3, h4⟩; have HI7 := qd h1; have HT7 : Hid (ai G0 w Γ7 w7) := HT6.out.trans h2; have hle7 : eW w7 wb ≤ 1 := oP _ _; clear h1 h2 c56; go_wp2_with fail; go_roundw
              case rel => exact ⟨Γ7, nx, 0, none, 0, dd, rfl, h4, rfl, by omega, rfl, by omega, by omega, Rw.nil _ _, HI7, HT7⟩
              case measure => rw [hew.out]; simp [intOf]; omega
            · have he6' : (er6 == 0) = false := by rw [beq_eq_false_iff_ne]; exact he6
              have hz6 : eW w6 wb = 0 := by rw [hew6.out, if_neg he6]
              clear hew6; go_wp2_with fail; go_roundw
              case rel => exact ⟨Γ6, k, 0, none, 0, dd, rfl, by omega, rfl, by omega, rfl, hd1, hd2, Rw.nil _ _, HI6, HT6⟩
              case measure => rw [hew.out, hz6]; simp [intOf]
          · have hq : (t3.toList == [105, 110, 108, 105, 110, 101]) = false := by rw [show ([105, 110, 108, 105, 110, 101] : List UInt8) = (⟨#[105, 110, 108, 105, 110, 101]⟩ : ByteArray).toList from by rw [ByteArray.toList_eq], ce]; simp [hw]
            subst h1; clear hw h1'; go_wp2_with fail; refine (bI ⟨1, t1, t2, t3, t4⟩ _ wr).mono ?_; rintro r w7 ⟨⟨b7, rfl⟩, h2⟩; have HB7 := qd h2; have hs7 := h2.size; have e0 := (h2.cell (p := ⟨b, off + k * 5, none⟩) hbl).trans d0; have e1 := (h2.cell (p := ⟨b, off + k * 5 + 1, none⟩) hbl).trans d1; have e2 := (h2.cell (p := ⟨b, off + k * 5 + 2, none⟩) hbl).trans d2; have e3 := (h2.cell (p := ⟨b, off + k * 5 + 3, none⟩) hbl).trans d3; have e4 := (h2.cell (p := ⟨b, off + k * 5 + 4, none⟩) hbl).trans d4; clear h2 d0 d1 d2 d3 d4 c5; go_wp2_with fail; refine (bI ⟨1, t1, t2, t3, t4⟩ _ w7).mono ?_; rintro r w8 ⟨⟨b8, rfl⟩, h2⟩; have HB8 : Hid (Below wr.heap.size wr w8) := HB7.out.trans (h2.mono HB7.out.size); have hb8 : b < w8.heap.size := by have := HB8.out.size; omega
            have d0 := (h2.cell (p := ⟨b, off + k * 5, none⟩) (by show b < w7.heap.size; omega)).trans e0; have d1 := (h2.cell (p := ⟨b, off + k * 5 + 1, none⟩) (by show b < w7.heap.size; omega)).trans e1; have d2 := (h2.cell (p := ⟨b, off + k * 5 + 2, none⟩) (by show b < w7.heap.size; omega)).trans e2; have d3 := (h2.cell (p := ⟨b, off + k * 5 + 3, none⟩) (by show b < w7.heap.size; omega)).trans e3; have d4 := (h2.cell (p := ⟨b, off + k * 5 + 4, none⟩) (by show b < w7.heap.size; omega)).trans e4; have HI8 : Hid (In Γr w8 wb) := hI.out.below HB8.out; have HT8 : Hid (ai G0 w Γr w8) := hT.out.trans (ai.of_below HB8.out); clear h2 e0 e1 e2 e3 e4 hs7 HB7; cases b7 <;> cases b8
            all_goals
             go_wp2_with (at_builtin; go_must (refine aA (HI8.out.good.below (br.alloc (Nat.le_refl _) _)) aX rfl _ _ rfl (.slice oa on oc) on rfl hR.out ⟨w8.heap.size, 0, none⟩ 1 1 rfl (aC (f := ay.enc ⟨1, t1, t2, t3, t4⟩) (al _ _) ⟨_, fun _ _ => rfl, HTK.out⟩ (dx ⟨1, t1, t2, t3, t4⟩)) (by omega) (by omega) ?_)); intro g9 c9 w9 Γ9 q1 q2 q3 _ _ _; have hq := (ai.of_below (Γ := Γr) ((Below.refl w8.heap.size w8).alloc (Nat.le_refl _) (.cells #[.int .i64 1, .int .i64 t1, .int .i64 t2, .string t3, .int .i64 t4] 31))).trans q2; have HI9 : Hid (In Γ9 w9 wb) := HI8.out.turn q1 hq; have HT9 : Hid (ai G0 w Γ9 w9) := HT8.out.trans hq; have HR9 := qd q3; have hle9 : eW w9 wb ≤ 1 := oP _ _; clear q1 q2 q3 hq d0 d1 d2 d3 d4; go_wp2_with fail; go_roundw
             case rel => exact ⟨Γ9, k + 1, on + 1, _, c9, _, by go_num, by omega, rfl, by omega, rfl, by omega, by omega, HR9, HI9, HT9⟩
             case measure => rw [hew.out]; simp [intOf]; omega
        · have h1' : (t0 == 1) = false := by rw [beq_eq_false_iff_ne]; exact h1
          go_wp2_with fail; refine (bI ⟨t0, t1, t2, t3, t4⟩ _ wr).mono ?_; rintro r w7 ⟨⟨b7, rfl⟩, h2⟩; have HB7 := qd h2; have hs7 := h2.size; have e0 := (h2.cell (p := ⟨b, off + k * 5, none⟩) hbl).trans d0; have e1 := (h2.cell (p := ⟨b, off + k * 5 + 1, none⟩) hbl).trans d1; have e2 := (h2.cell (p := ⟨b, off + k * 5 + 2, none⟩) hbl).trans d2; have e3 := (h2.cell (p := ⟨b, off + k * 5 + 3, none⟩) hbl).trans d3; have e4 := (h2.cell (p := ⟨b, off + k * 5 + 4, none⟩) hbl).trans d4; clear h2 d0 d1 d2 d3 d4 c5; go_wp2_with fail; refine (bI ⟨t0, t1, t2, t3, t4⟩ _ w7).mono ?_; rintro r w8 ⟨⟨b8, rfl⟩, h2⟩; have HB8 : Hid (Below wr.heap.size wr w8) := HB7.out.trans (h2.mono HB7.out.size); have hb8 : b < w8.heap.size := by have := HB8.out.size; omega
          have d0 := (h2.cell (p := ⟨b, off + k * 5, none⟩) (by show b < w7.heap.size; omega)).trans e0; have d1 := (h2.cell (p := ⟨b, off + k * 5 + 1, none⟩) (by show b < w7.heap.size; omega)).trans e1; have d2 := (h2.cell (p := ⟨b, off + k * 5 + 2, none⟩) (by show b < w7.heap.size; omega)).trans e2; have d3 := (h2.cell (p := ⟨b, off + k * 5 + 3, none⟩) (by show b < w7.heap.size; omega)).trans e3; have d4 := (h2.cell (p := ⟨b, off + k * 5 + 4, none⟩) (by show b < w7.heap.size; omega)).trans e4; have HI8 : Hid (In Γr w8 wb) := hI.out.below HB8.out; have HT8 : Hid (ai G0 w Γr w8) := hT.out.trans (ai.of_below HB8.out); clear h2 e0 e1 e2 e3 e4 hs7 HB7; cases b7 <;> cases b8
          all_goals
           go_wp2_with (at_builtin; go_must (refine aA (HI8.out.good.below (br.alloc (Nat.le_refl _) _)) aX rfl _ _ rfl (.slice oa on oc) on rfl hR.out ⟨w8.heap.size, 0, none⟩ 1 1 rfl (aC (f := ay.enc ⟨t0, t1, t2, t3, t4⟩) (al _ _) ⟨_, fun _ _ => rfl, HTK.out⟩ (dx ⟨t0, t1, t2, t3, t4⟩)) (by omega) (by omega) ?_)); intro g9 c9 w9 Γ9 q1 q2 q3 _ _ _; have hq := (ai.of_below (Γ := Γr) ((Below.refl w8.heap.size w8).alloc (Nat.le_refl _) (.cells #[.int .i64 t0, .int .i64 t1, .int .i64 t2, .string t3, .int .i64 t4] 31))).trans q2; have HI9 : Hid (In Γ9 w9 wb) := HI8.out.turn q1 hq; have HT9 : Hid (ai G0 w Γ9 w9) := HT8.out.trans hq; have HR9 := qd q3; have hle9 : eW w9 wb ≤ 1 := oP _ _; clear q1 q2 q3 hq d0 d1 d2 d3 d4; go_wp2_with fail; go_roundw
           case rel => exact ⟨Γ9, k + 1, on + 1, _, c9, _, by go_num, by omega, rfl, by omega, rfl, by omega, by omega, HR9, HI9, HT9⟩
           case measure => rw [hew.out]; simp [intOf]; omega
      · have hdd' : decide (dd ≤ 0) = false := decide_eq_false hdd; go_wp2_with fail; refine (bI ⟨t0, t1, t2, t3, t4⟩ _ wr).mono ?_; rintro r w7 ⟨⟨b7, rfl⟩, h2⟩; have HB7 := qd h2; have hs7 := h2.size; have e0 := (h2.cell (p := ⟨b, off + k * 5, none⟩) hbl).trans d0; have e1 := (h2.cell (p := ⟨b, off + k * 5 + 1, none⟩) hbl).trans d1; have e2 := (h2.cell (p := ⟨b, off + k * 5 + 2, none⟩) hbl).trans d2; have e3 := (h2.cell (p := ⟨b, off + k * 5 + 3, none⟩) hbl).trans d3; have e4 := (h2.cell (p := ⟨b, off + k * 5 + 4, none⟩) hbl).trans d4; clear h2 d0 d1 d2 d3 d4 c5; go_wp2_with fail; refine (bI ⟨t0, t1, t2, t3, t4⟩ _ w7).mono ?_; rintro r w8 ⟨⟨b8, rfl⟩, h2⟩; have HB8 : Hid (Below wr.heap.size wr w8) := HB7.out.trans (h2.mono HB7.out.size); have hb8 : b < w8.heap.size := by have := HB8.out.size; omega
        have d0 := (h2.cell (p := ⟨b, off + k * 5, none⟩) (by show b < w7.heap.size; omega)).trans e0; have d1 := (h2.cell (p := ⟨b, off + k * 5 + 1, none⟩) (by show b < w7.heap.size; omega)).trans e1; have d2 := (h2.cell (p := ⟨b, off + k * 5 + 2, none⟩) (by show b < w7.heap.size; omega)).trans e2; have d3 := (h2.cell (p := ⟨b, off + k * 5 + 3, none⟩) (by show b < w7.heap.size; omega)).trans e3; have d4 := (h2.cell (p := ⟨b, off + k * 5 + 4, none⟩) (by show b < w7.heap.size; omega)).trans e4; have HI8 : Hid (In Γr w8 wb) := hI.out.below HB8.out; have HT8 : Hid (ai G0 w Γr w8) := hT.out.trans (ai.of_below HB8.out); clear h2 e0 e1 e2 e3 e4 hs7 HB7; cases b7 <;> cases b8
        all_goals
         go_wp2_with (at_builtin; go_must (refine aA (HI8.out.good.below (br.alloc (Nat.le_refl _) _)) aX rfl _ _ rfl (.slice oa on oc) on rfl hR.out ⟨w8.heap.size, 0, none⟩ 1 1 rfl (aC (f := ay.enc ⟨t0, t1, t2, t3, t4⟩) (al _ _) ⟨_, fun _ _ => rfl, HTK.out⟩ (dx ⟨t0, t1, t2, t3, t4⟩)) (by omega) (by omega) ?_)); intro g9 c9 w9 Γ9 q1 q2 q3 _ _ _; have hq := (ai.of_below (Γ := Γr) ((Below.refl w8.heap.size w8).alloc (Nat.le_refl _) (.cells #[.int .i64 t0, .int .i64 t1, .int .i64 t2, .string t3, .int .i64 t4] 31))).trans q2; have HI9 : Hid (In Γ9 w9 wb) := HI8.out.turn q1 hq; have HT9 : Hid (ai G0 w Γ9 w9) := HT8.out.trans hq; have HR9 := qd q3; have hle9 : eW w9 wb ≤ 1 := oP _ _; clear q1 q2 q3 hq d0 d1 d2 d3 d4; go_wp2_with fail; go_roundw
         case rel => exact ⟨Γ9, k + 1, on + 1, _, c9, _, by go_num, by omega, rfl, by omega, rfl, by omega, by omega, HR9, HI9, HT9⟩
         case measure => rw [hew.out]; simp [intOf]; omega
    · have hex : (¬ ((k : Int) < (ts.length : Int)) ∧ decide ((k : Int) < (ts.length : Int)) = false) ∨ ((k : Int) < (ts.length : Int) ∧ (er == 0) = false) := by
       by_cases h : k < ts.length
       · exact .inr ⟨by omega, by rw [beq_eq_false_iff_ne]; exact fun he => hkn ⟨h, he⟩⟩
       · exact .inl ⟨by omega, decide_eq_false (by omega)⟩
      clear hkn; rcases hex with ⟨hx1, hx2⟩ | ⟨hx1, hx2⟩
      all_goals
       go_wp2_with fail; refine (fh oa on oc wr hI.out (hR.out.view) (by omega)).mono ?_; rintro r w6 ⟨Γ6, rfl, h1, h2⟩; have HI6 := qd h1; have HT6 : Hid (ai G0 w Γ6 w6) := hT.out.trans h2; have HE6 := qd (HL.out.turn HT6.out); clear h1 h2; obtain ⟨inl6, ma6, mn6, mc6, ca6, cn6, cc6, u6, oa6, on6, oc6, er6, at6, hf6⟩ := HI6.out.fields; have c56 := hf6.c5; have hwb6 := HI6.out.lt; clear hf6; clear c5 hwb c56; obtain ⟨t, het, d0, d1, d2, d3, d4⟩ := HE6.out.tokAt (i := ts.length) (by omega); rw [ey] at het; subst het; have hnn : (ts.length : Int) < (ts.length : Int) + 1 := by omega
       have hbl := HE6.out.lt; go_wp2_with fail; refine (ij e w6 HI6.out).mono ?_; rintro r w8 ⟨v8, er8, a8, rfl, ho, h8⟩; have HZ := qd (eH HT6.out HEA.out ⟨v8, er8, a8, rfl, ho, h8⟩); clear ho h8 d0 d1 d2 d3 d4; go_wp2_with fail; rw [HPP.out]; exact HZ.out
end Go.Proofs.YthkebhjaaikopaaGreatDoor
set_option linter.unusedSimpArgs false
set_option linter.unusedVariables false
namespace Go.Proofs.YthkebhjaaikopaaGreatDoor
open Go.ChangeShapes Go.WideShapes Go.ChangeAt Go.RowKit Go.Deep Go.Joins Go.Instr
def gU (w : World) (r : Ending) (w' : World) : Prop := ∃ v er a, r = .returned (.tuple #[v, .int .i64 er, .int .i64 a]) ∧ Below w.heap.size w w' ∧ (er = 0 → ∃ (b off c : Nat) (l : List ay) (e : ay), v = .slice (some ⟨b, off, none⟩) (l.length + 1) c ∧ Fe G0 w' b off c l e ∧ l.length ≤ 8192 ∧ e.kind = 0 ∧ e.text.size ≤ 1000000)
theorem gU.of_both {w w1 w2 : World} {e : ay} {r : Ending} (hb : Below w.heap.size w w1) (h : j5 w1 e r w2) (hk : e.kind = 0) (ht : e.text.size ≤ 1000000) : gU w r w2 := by
 obtain ⟨v, er, a, h1, h2, h3⟩ := h; refine ⟨v, er, a, h1, hb.trans (h2.mono hb.size), fun h0 => ?_⟩; obtain ⟨b, off, c, l, h4, h5, h6⟩ := h3 h0; exact ⟨b, off, c, l, e, h4, h5, h6, hk, ht⟩
theorem rl (s : ByteArray) (w : World) (hTok : Calls Tryz.prog 13 #[.string s] w (gU w)) : Calls Tryz.prog 6 #[.string s] w (gU w) := by
 have HTok := qd hTok; clear hTok; generalize hT : gU w = TT at HTok ⊢; have HTT := qd hT; clear hT; have HQ : Hid (TT = gU w) := HTT.out.symm; go_enter Tryz.func6, Tryz.ntmps6; go_wp2_with fail; refine HTok.out.mono ?_; rintro r w1 h0; rw [HQ.out] at h0; obtain ⟨v1, e1, a1, rfl, hb1, h1⟩ := h0; have HB1 := qd hb1; have HH1 := qd h1; clear hb1 h1
 by_cases he1 : e1 = 0
 · subst he1; obtain ⟨b, off, c, l, e, rfl, hF, hl, hk, ht⟩ := HH1.out rfl; have HF := qd hF; have HK := qd hk; clear hF hk; go_wp2_with fail; refine (ny b off c l e w1 HF.out (by omega)).mono ?_; rintro r w2 h2; obtain ⟨v2, e2, a2, rfl, hb2, h2⟩ := gU.of_both HB1.out h2 HK.out ht; have HB2 := qd hb2; have HH2 := qd h2; clear hb2 h2 HH1 HF
   by_cases he2 : e2 = 0
   · subst he2; obtain ⟨b, off, c, l, e, rfl, hF, hl, hk, ht⟩ := HH2.out rfl; have HF := qd hF; have HK := qd hk; clear hF hk; go_wp2_with fail; refine (lY b off c l e w2 HF.out (by omega)).mono ?_; rintro r w3 h3; obtain ⟨v3, e3, a3, rfl, hb3, h3⟩ := gU.of_both HB2.out h3 HK.out ht; have HB3 := qd hb3; have HH3 := qd h3; clear hb3 h3; go_wp2_with fail; rw [HQ.out]; exact ⟨v3, e3, a3, rfl, HB3.out, HH3.out⟩
   · have he2' : (e2 == 0) = false := by rw [beq_eq_false_iff_ne]; exact he2
     go_wp2_with fail; rw [HQ.out]; exact ⟨v2, e2, a2, rfl, HB2.out, HH2.out⟩
 · have he1' : (e1 == 0) = false := by rw [beq_eq_false_iff_ne]; exact he1
   go_wp2_with fail; rw [HQ.out]; exact ⟨v1, e1, a1, rfl, HB1.out, HH1.out⟩
theorem Fe.right {Γ : Gh} {w : World} {b off c : Nat} {ts : List ay} {e : ay} (h : Fe Γ w b off c ts e) (hk : e.kind = 0) : bG (ts ++ [e]) = true := by
 unfold bG; rw [decide_eq_true_iff]; refine ⟨by simp, fun i hi => ?_⟩; simp at hi
 by_cases h1 : i < ts.length
 · rw [dE h1]; have := (h.ok i h1).1; simp; exact ⟨fun h => absurd h this, fun h => by omega⟩
 · obtain rfl : i = ts.length := by omega
   rw [ey]; simp [hk]
end Go.Proofs.YthkebhjaaikopaaGreatDoor

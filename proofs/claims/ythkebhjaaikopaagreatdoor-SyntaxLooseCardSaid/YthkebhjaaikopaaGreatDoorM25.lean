/- Part of the proof of SyntaxLooseCardSaid (KL KM). -/
import Derived.Test.YthkebhjaaikopaaGreatDoorM24
set_option maxHeartbeats 8000000
set_option linter.unusedSimpArgs false
set_option linter.unusedVariables false
namespace Go.Proofs.YthkebhjaaikopaaGreatDoor
open Go.ChangeShapes Go.WideShapes Go.ChangeAt Go.RowKit Go.Deep Go.Joins Go.Instr
set_option maxRecDepth 100000 in
theorem nT {Γ : Gh} {wb : Nat} (a : Option Addr) (c : Nat) (l : List ay) (at0 : Int) (w : World) (h : In Γ w wb) (hl : Fx Γ w a c l) (hn : l.length ≤ 1000000) (ha : dC at0) :
 Calls Tryz.prog 94 #[.pointer (some ⟨wb, 0, none⟩), .slice a l.length c, .int .i64 at0] w (cC Γ w wb) := by
 have H := qd h; have HL := qd hl; have hwb := h.lt; obtain ⟨PP, hPP⟩ : ∃ PP, PP = cC Γ w wb := ⟨_, rfl⟩; rw [← hPP]; have HPP := qd hPP; have HFL : Hid (∀ (Γ1 : Gh) (w1 : World) (x : Int), In Γ1 w1 wb → ai Γ w Γ1 w1 → dC x → x ≠ 0 → Calls Tryz.prog 39 #[.pointer (some ⟨wb, 0, none⟩), .int .i64 x, .int .i64 at0] w1 fun r w' => r = .returned (.tuple #[]) ∧ PP (.returned (.tuple #[])) w') := fun Γ1 w1 x h1 h2 h3 h4 => (aB x at0 w1 h1 h3 ha h4).mono fun r w' hr => ⟨hr.1, by rw [HPP.out]; exact cC.of_fails h2 ⟨rfl, hr.2⟩⟩
 clear h hl hPP ha
 by_cases h0 : l.length = 0
 · have h0' : ((l.length : Int) == 0) = true := by rw [beq_iff_eq]; omega
   have H0 := qd h0; clear h0; go_enter Tryz.func94, Tryz.ntmps94; go_wp2_with fail; refine (HFL.out Γ w 6 H.out (ai.refl _ _) (by decide) (by decide)).mono ?_; rintro e w9 ⟨rfl, h9⟩; have H9 := qd h9; clear h9; go_wp2_with fail
   go_end0
   exact H9.out
 · have h0' : ((l.length : Int) == 0) = false := by rw [beq_eq_false_iff_ne]; omega
   have h00 : (0 : Int) < (l.length : Int) := by omega
   obtain ⟨b, off, t, rfl, hb, het, ht, e0, e1, e2, e3, e4⟩ := HL.out.tokAt (i := 0) (by omega); obtain ⟨t0, t1, t2, t3, t4⟩ := t; simp only [Nat.zero_mul, Nat.add_zero] at e0 e1 e2 e3 e4; clear het ht
   by_cases hk : t0 = 1
   · have hk' : (t0 == 1) = true := by rw [beq_iff_eq]; exact hk
     have HK1 := qd hk; clear hk
     by_cases hw : t3 = ⟨#[100, 101, 102, 105, 110, 101, 100]⟩
     · subst hw; go_enter Tryz.func94, Tryz.ntmps94; go_wp2_with fail; refine (HFL.out Γ w 6 H.out (ai.refl _ _) (by decide) (by decide)).mono ?_; rintro e w9 ⟨rfl, h9⟩; have H9 := qd h9; clear h9; go_wp2_with fail
       go_end0
       exact H9.out
     · have hw' : (t3.toList == [100, 101, 102, 105, 110, 101, 100]) = false := by rw [show ([100, 101, 102, 105, 110, 101, 100] : List UInt8) = (⟨#[100, 101, 102, 105, 110, 101, 100]⟩ : ByteArray).toList from by rw [ByteArray.toList_eq], ce]; simp [hw]
       clear hw; go_enter Tryz.func94, Tryz.ntmps94
       go_upto_region 4 with fail
       generalize hW1 : World.alloc w _ = w1; have HB1 : Hid (Below w.heap.size w w1) := by rw [← hW1]; exact br.alloc (Nat.le_refl _) _
       have HM1 : Hid (Bx Γ w1 w.heap.size (.cells #[.string t3, .bool false, .slice none 0 0, .slice none 0 0] 116 (0, 0))) := Bx.of_new H.out.good (Nat.le_refl _) (by rw [← hW1]; exact al _ _); clear hW1 e0 e1 e2 e3 e4; refine jt (fun _ _ _ _ _ h => h) ?_; refine p7 rfl _ _ _ b off c l w1 (HL.out.below HB1.out) hn (by omega) ?_; intro r w2 r37 r38 r39 r40 r41 r42 r43 r44 r45 r46 r47 r48 r49 r50 r51 r52 r53 r54 r55 r56 r57 r58 r59 r60 r61 hb2; have HB2 : Hid (Below w.heap.size w w2) := HB1.out.trans (hb2.mono HB1.out.size); have HM2 := qd (HM1.out.below hb2); have HI2 : Hid (In Γ w2 wb) := H.out.below HB2.out; have HT2 : Hid (ai Γ w Γ w2) := ai.of_below HB2.out; have HL2 := qd (HL.out.below HB2.out); clear hb2 HB1 HM1; cases r with
       | false =>
         go_upto_region 11 with fail
         refine jt (fun _ _ _ _ _ h => h) ?_; refine mj rfl _ _ _ w.heap.size b off c 1 l t3 _ _ w2 HT2.out (Nat.le_refl _) HI2.out.good HL2.out hn (by omega) HM2.out rfl ?_; intro Γ5 ba bn bc w5 r78 r79 r80 r81 r82 r83 r84 h1 hle h2 h3 h4 h5; have HI5 : Hid (In Γ5 w5 wb) := H.out.turn h1 h2; have HT5 := qd h2; have HM5 := qd h3; have HV5 := qd h4; clear h1 h2 h3 h4; obtain ⟨m0, m1, m2, m3⟩ := dz HM5.out.1; have hml := af HM5.out.1; go_wp2_with fail; refine (em t3 _ _ _ _ ba bn bc w5 HI5.out (Rw.nil _ _).view (by omega) (fun _ => rfl) HV5.out h5).mono ?_; rintro e w6 ⟨Γ6, ok6, rfl, h1, h2⟩; have HI6 := qd h1; have HT6 : Hid (ai Γ w Γ6 w6) := HT5.out.trans h2; clear h1 h2 m0 m1 m2 m3 hml; cases ok6 with
         | true =>
           go_wp2_with fail
           go_end0
           rw [HPP.out]; exact ⟨Γ6, rfl, HI6.out, HT6.out⟩
         | false =>
           go_wp2_with fail; refine (HFL.out Γ6 w6 8 HI6.out HT6.out (by decide) (by decide)).mono ?_; rintro e w9 ⟨rfl, h9⟩; have H9 := qd h9; clear h9; go_wp2_with fail
           go_end0
           exact H9.out
       | true =>
         go_wp2_with fail; refine (jJ (some ⟨b, off, none⟩) c 2 l w2 HI2.out.good HL2.out hn (by omega)).mono ?_; rintro e w3 ⟨Γ3, pv, pk, nx, ok, rfl, h1, h2, h3, h4, h5⟩; have HI3 : Hid (In Γ3 w3 wb) := HI2.out.turn h1 h2; have HT3 : Hid (ai Γ w Γ3 w3) := HT2.out.trans h2; have HM3 := qd (HM2.out.turn h2); have HL3 := qd (HL2.out.turn h2); have HP3 := qd h3; have hp1 := h3.one; obtain ⟨pa, pc, rfl, _, _, _⟩ := h3; clear h1 h2; cases ok with
         | false =>
           clear h5; go_wp2_with fail; refine (HFL.out Γ3 w3 6 HI3.out HT3.out (by decide) (by decide)).mono ?_; rintro e w9 ⟨rfl, h9⟩; have H9 := qd h9; clear h9; go_wp2_with fail
           go_end0
           exact H9.out
         | true =>
           obtain ⟨hx0, hx1⟩ := h5 (by first | trivial | rfl); obtain ⟨fr, rfl⟩ : ∃ fr : Nat, nx = fr := ⟨nx.toNat, by omega⟩; clear h5; have hfr : fr ≤ l.length := by omega
           obtain ⟨m0, m1, m2, m3⟩ := dz HM3.out.1; have hml := af HM3.out.1; have z1 := frozen_of_row w3 w.heap.size 1 _ _ HM3.out.1; have z2 := frozen_of_row w3 w.heap.size 2 _ _ HM3.out.1
           go_upto_region 11 with fail
           generalize hW4 : World.setCell (World.setCell w3 _ _) _ _ = w4; have HM4 : Hid (Bx Γ3 w4 w.heap.size (.cells #[.string t3, .bool true, .slice pa pk pc, .slice none 0 0] 116 (0, 0))) := by
            rw [← hW4]; exact (HM3.out.set 1 (.bool true)).set 2 (.slice pa pk pc)
           have HT4 : Hid (ai Γ w Γ3 w4) := by
            rw [← hW4]; exact (HT3.out.box (Nat.le_refl _) 1 _).box (Nat.le_refl _) 2 _
           have HI4 : Hid (In Γ3 w4 wb) := by
            refine ⟨?_, HI3.out.at1⟩; rw [← hW4]; exact (HI3.out.good.box HM3.out.2 1 _).box HM3.out.2 2 _
           have HL4 : Hid (Fx Γ3 w4 (some ⟨b, off, none⟩) c l) := HL.out.turn HT4.out; clear hW4 m0 m1 m2 m3 hml z1 z2
           go_upto_region 11 with fail
           refine jt (fun _ _ _ _ _ h => h) ?_; refine mj rfl _ _ _ w.heap.size b off c fr l t3 _ _ w4 HT4.out (Nat.le_refl _) HI4.out.good HL4.out hn hfr HM4.out hp1 ?_; intro Γ5 ba bn bc w5 r78 r79 r80 r81 r82 r83 r84 h1 hle h2 h3 h4 h5; have HI5 : Hid (In Γ5 w5 wb) := H.out.turn h1 h2; have HT5 := qd h2; have HM5 := qd h3; have HV5 := qd h4; clear h1 h2 h3 h4; obtain ⟨m0, m1, m2, m3⟩ := dz HM5.out.1; have hml := af HM5.out.1; go_wp2_with fail; refine (em t3 _ _ _ _ ba bn bc w5 HI5.out (HP3.out.le hle) h4 (fun h => by cases h) HV5.out h5).mono ?_; rintro e w6 ⟨Γ6, ok6, rfl, h1, h2⟩; have HI6 := qd h1; have HT6 : Hid (ai Γ w Γ6 w6) := HT5.out.trans h2; clear h1 h2 m0 m1 m2 m3 hml; cases ok6 with
           | true =>
             go_wp2_with fail
             go_end0
             rw [HPP.out]; exact ⟨Γ6, rfl, HI6.out, HT6.out⟩
           | false =>
             go_wp2_with fail; refine (HFL.out Γ6 w6 8 HI6.out HT6.out (by decide) (by decide)).mono ?_; rintro e w9 ⟨rfl, h9⟩; have H9 := qd h9; clear h9; go_wp2_with fail
             go_end0
             exact H9.out
   · have hk' : (t0 == 1) = false := by rw [beq_eq_false_iff_ne]; exact hk
     go_enter Tryz.func94, Tryz.ntmps94; go_wp2_with fail; refine (HFL.out Γ w 6 H.out (ai.refl _ _) (by decide) (by decide)).mono ?_; rintro e w9 ⟨rfl, h9⟩; have H9 := qd h9; clear h9; go_wp2_with fail
     go_end0
     exact H9.out
end Go.Proofs.YthkebhjaaikopaaGreatDoor
set_option linter.unusedSimpArgs false
set_option linter.unusedVariables false
namespace Go.Proofs.YthkebhjaaikopaaGreatDoor
open Go.ChangeShapes Go.WideShapes Go.ChangeAt Go.RowKit Go.Deep Go.Joins Go.Instr
set_option maxRecDepth 100000 in
theorem sB {C : Code} (hC : cU 8 (Tryz.f137.body.getD .skip) = some C) (K : Act → World → Prop) (Q : Exit → Act → World → Prop) {s0 s2 s3 s4 s5 s6 s8 s9 s10 s11 s12 s13 s14 s15 s16 s17 s18 s19 s20 s21 s22 s23 s24 s25 s26 s27 s28 s29 s30 s31 s32 s33 s34 s35 s36 s37 s38 s39 s40 s41 s42 s43 s44 s45 s46 s47 s48 s49 s50 s51 s52 s53 s54 s55 s56 s57 s58 s59 s60 s61 s62 s63 s64 s65 s66 s67 s68 s69 s70 s71 s72 s73 s74 s75 s76 s77 s78 s79 s80 s81 s82 s83 s84 s85 s86 s87 s88 s89 s90 s91 s92 s93 s94 s95 s96 s97 s98 s99 s100 s101 s102 s103 s104 s105 s106 s107 s108 : Value} {Γ : Gh} (b off c k : Nat) (l : List ay) (w : World) (hl : Fx Γ w (some ⟨b, off, none⟩) c l) (hn : l.length ≤ 1000000) (hk : k ≤ 1000000)
 (hK : ∀ (r : Bool) (w' : World) {r38 r39 r40 r41 r42 r43 r44 r45 r46 r47 r48 r49 r50 r51 r52 r53 r54 r55 r56 r57 : Value}, Below w.heap.size w w' → K ⟨(s0 :: (.slice (some ⟨b, off, none⟩) l.length c) :: s2 :: s3 :: s4 :: s5 :: s6 :: (.int .i64 k) :: s8 :: s9 :: s10 :: s11 :: s12 :: s13 :: s14 :: s15 :: s16 :: s17 :: s18 :: s19 :: s20 :: s21 :: s22 :: s23 :: s24 :: s25 :: s26 :: s27 :: s28 :: s29 :: s30 :: s31 :: s32 :: s33 :: s34 :: s35 :: s36 :: s37 :: r38 :: r39 :: r40 :: r41 :: r42 :: r43 :: r44 :: r45 :: r46 :: r47 :: r48 :: r49 :: r50 :: r51 :: r52 :: r53 :: r54 :: r55 :: r56 :: r57 :: (.bool r) :: s59 :: s60 :: s61 :: s62 :: s63 :: s64 :: s65 :: s66 :: s67 :: s68 :: s69 :: s70 :: s71 :: s72 :: s73 :: s74 :: s75 :: s76 :: s77 :: s78 :: s79 :: s80 :: s81 :: s82 :: s83 :: s84 :: s85 :: s86 :: s87 :: s88 :: s89 :: s90 :: s91 :: s92 :: s93 :: s94 :: s95 :: s96 :: s97 :: s98 :: s99 :: s100 :: s101 :: s102 :: s103 :: s104 :: s105 :: s106 :: s107 :: s108 :: []).toArray, []⟩ w') :
 Code.wp Tryz.prog C (Exit.then K Q) ⟨(s0 :: (.slice (some ⟨b, off, none⟩) l.length c) :: s2 :: s3 :: s4 :: s5 :: s6 :: (.int .i64 k) :: s8 :: s9 :: s10 :: s11 :: s12 :: s13 :: s14 :: s15 :: s16 :: s17 :: s18 :: s19 :: s20 :: s21 :: s22 :: s23 :: s24 :: s25 :: s26 :: s27 :: s28 :: s29 :: s30 :: s31 :: s32 :: s33 :: s34 :: s35 :: s36 :: s37 :: s38 :: s39 :: s40 :: s41 :: s42 :: s43 :: s44 :: s45 :: s46 :: s47 :: s48 :: s49 :: s50 :: s51 :: s52 :: s53 :: s54 :: s55 :: s56 :: s57 :: s58 :: s59 :: s60 :: s61 :: s62 :: s63 :: s64 :: s65 :: s66 :: s67 :: s68 :: s69 :: s70 :: s71 :: s72 :: s73 :: s74 :: s75 :: s76 :: s77 :: s78 :: s79 :: s80 :: s81 :: s82 :: s83 :: s84 :: s85 :: s86 :: s87 :: s88 :: s89 :: s90 :: s91 :: s92 :: s93 :: s94 :: s95 :: s96 :: s97 :: s98 :: s99 :: s100 :: s101 :: s102 :: s103 :: s104 :: s105 :: s106 :: s107 :: s108 :: []).toArray, []⟩ w := by
 obtain rfl := Option.some.inj (hC.symm.trans (rfl : cU 8 (Tryz.f137.body.getD .skip) = some _)); clear hC; have HK := qd hK; have HL := qd hl; clear hK hl
 by_cases h1 : k + 3 < l.length
 · have hi1 : (k : Int) + 3 < (l.length : Int) := by omega
   have hi2 : (k : Int) + 1 < (l.length : Int) := by omega
   obtain ⟨b', off', t, hbe, hb, het, ht, d0, d1, d2, d3, d4⟩ := HL.out.tokAt (i := k + 1) (by omega); obtain ⟨rfl, rfl⟩ : b = b' ∧ off = off' := by simpa using hbe
   obtain ⟨x0, x1, x2, x3, x4⟩ := t; simp only at d0 d1 d2 d3 d4; clear hbe het ht; go_wp2_with fail; refine (bI ⟨x0, x1, x2, x3, x4⟩ _ w).mono ?_; rintro r w1 ⟨⟨b1, rfl⟩, h1'⟩; have HB1 := qd h1'; have hs1 := h1'.size; clear h1' d0 d1 d2 d3 d4; cases b1 with
   | false =>
     go_wp2_with fail; exact HK.out false w1 HB1.out
   | true =>
     obtain ⟨b', off', t, hbe, hb, het, ht, d0, d1, d2, d3, d4⟩ := (HL.out.below HB1.out).tokAt (i := k + 3) (by omega); obtain ⟨rfl, rfl⟩ : b = b' ∧ off = off' := by simpa using hbe
     obtain ⟨y0, y1, y2, y3, y4⟩ := t; simp only at d0 d1 d2 d3 d4; clear hbe het ht; go_wp2_with fail; refine (bI ⟨y0, y1, y2, y3, y4⟩ _ w1).mono ?_; rintro r w2 ⟨⟨b2, rfl⟩, h2'⟩; have HB2 : Hid (Below w.heap.size w w2) := HB1.out.trans (h2'.mono HB1.out.size); clear h2' d0 d1 d2 d3 d4; go_wp2_with fail; exact HK.out b2 w2 HB2.out
 · have hi1 : ¬ ((k : Int) + 3 < (l.length : Int)) := by omega
   have hi3 : decide ((k : Int) + 3 < (l.length : Int)) = false := by simp; omega
   go_wp2_with fail; exact HK.out false w br
def te (Γ : Gh) (w : World) (wb : Nat) (e : Ending) (w' : World) : Prop := ∃ Γ' v n ok, e = .returned (.tuple #[v, .bool ok]) ∧ In Γ' w' wb ∧ ai Γ w Γ' w' ∧ Rw Γ' .tok v n ∧ n ≤ 1000000
theorem kF {k a li : Int} {s : ByteArray} {n : Int} {x : Int} {t : ByteArray} (h : dt ⟨k, a, li, s, n⟩) (ht : t.size ≤ 1000000) (hx : dC x) : dt ⟨2, a, li, t, x⟩ := ⟨(by decide : (2 : Int) ≠ 0), ht, h.2.2.1, h.2.2.2.1, hx, (by decide : dC 2)⟩
set_option maxRecDepth 100000 in
theorem l8 {Γ : Gh} {wb : Nat} (a : Option Addr) (c : Nat) (l : List ay) (w : World) (h : In Γ w wb) (hl : Fx Γ w a c l) (hn : l.length ≤ 999990) :
 Calls Tryz.prog 137 #[.pointer (some ⟨wb, 0, none⟩), .slice a l.length c] w (te Γ w wb) := by
 have H := qd h; have HL := qd hl; obtain ⟨PP, hPP⟩ : ∃ PP, PP = te Γ w wb := ⟨_, rfl⟩; rw [← hPP]; have HPP := qd hPP; clear h hl hPP; go_enter Tryz.func137, Tryz.ntmps137; go_wp2_with fail
 go_loopw [6, 7] (fun o i wr => ∃ (Γr : Gh) (k on : Nat) (oa : Option Addr) (oc : Nat), i = .int .i64 k ∧ k ≤ 1000000 ∧ o = .slice oa on oc ∧ on ≤ k ∧ Hid (Rw Γr .tok (.slice oa on oc) on) ∧ Hid (In Γr wr wb) ∧ Hid (ai Γ w Γr wr)) (fun _ i _ => 1000010 - (intOf i).toNat)
 case atStart => exact ⟨Γ, 0, 0, none, 0, rfl, by omega, rfl, by omega, Rw.nil _ _, H, ai.refl _ _⟩
 case round =>
  obtain ⟨Γr, k, on, oa, oc, rfl, hk, rfl, hon, hR, hI, hT⟩ := hrel
  by_cases hkn : k < l.length
  · obtain ⟨b, off, t, rfl, hb, het, ht, d0, d1, d2, d3, d4⟩ := (HL.out.turn hT.out).tokAt hkn; obtain ⟨t0, t1, t2, t3, t4⟩ := t; simp only at d0 d1 d2 d3 d4; have HTK := qd ht; clear ht het; have hkn' : (k : Int) < (l.length : Int) := by omega
    by_cases hk1 : t0 = 1
    · have hk1' : (t0 == 1) = true := by rw [beq_iff_eq]; exact hk1
      have HK1 := qd hk1; clear hk1
      by_cases hw : t3 = ⟨#[100, 101, 102, 105, 110, 101, 100]⟩
      · subst hw
        go_upto_region 8 with fail
        clear d0 d1 d2 d3 d4; refine sB rfl _ _ b off c k l wr (HL.out.turn hT.out) (by omega) hk ?_; intro r w2 r38 r39 r40 r41 r42 r43 r44 r45 r46 r47 r48 r49 r50 r51 r52 r53 r54 r55 r56 r57 hb2; have HI2 : Hid (In Γr w2 wb) := hI.out.below hb2; have HT2 : Hid (ai Γ w Γr w2) := hT.out.trans (ai.of_below hb2); have HL2 := qd (HL.out.turn HT2.out); have hsz2 := hb2.size; clear hb2; cases r with
        | false =>
          by_cases hn1 : k + 1 < l.length
          · obtain ⟨b', off', t, hbe, hb7, het, ht, d0, d1, d2, d3, d4⟩ := HL2.out.tokAt (i := k + 1) hn1; obtain ⟨rfl, rfl⟩ : b = b' ∧ off = off' := by simpa using hbe
            obtain ⟨x0, x1, x2, x3, x4⟩ := t; simp only at d0 d1 d2 d3 d4; clear hbe het ht; obtain ⟨b', off', t, hbe, hb8, het, ht, e0, e1, e2, e3, e4⟩ := HL2.out.tokAt (i := k) hkn; obtain ⟨rfl, rfl⟩ : b = b' ∧ off = off' := by simpa using hbe
            obtain ⟨y0, y1, y2, y3, y4⟩ := t; simp only at e0 e1 e2 e3 e4; have HY := qd ht; clear hbe het ht; have hi1 : ¬ ((l.length : Int) ≤ (k : Int) + 1) := by omega
            have hi2 : (k : Int) + 1 < (l.length : Int) := by omega
            have hi3 : decide ((l.length : Int) ≤ (k : Int) + 1) = false := by simp; omega
            have hi4 : (k : Int) < (l.length : Int) := by omega
            by_cases hx : x0 = 1
            · have hx' : (x0 == 1) = true := by rw [beq_iff_eq]; exact hx
              have HX := qd hx; clear hx; go_wp2_with fail; go_region
              all_goals
               generalize hW3 : World.drew (World.alloc w2 _) = w3; have HB3 : Hid (Below w2.heap.size w2 w3) := by rw [← hW3]; exact (br.alloc (Nat.le_refl _) _).drew
               have k3 : w3.heap[w2.heap.size]? = some (.cells #[.int .i64 2, .int .i64 y1, .int .i64 y2, .string ⟨#[48]⟩, .int .i64 0] 31 (0, 0)) := by rw [← hW3]; exact al w2 _
               clear hW3 d0 d1 d2 d3 d4 e0 e1 e2 e3 e4; have HI3 : Hid (In Γr w3 wb) := HI2.out.below HB3.out; have HT3 : Hid (ai Γ w Γr w3) := HT2.out.trans (ai.of_below HB3.out); obtain ⟨b', off', t, hbe, hb7, het, ht, d0, d1, d2, d3, d4⟩ := (HL.out.turn HT3.out).tokAt (i := k + 1) hn1; obtain ⟨rfl, rfl⟩ : b = b' ∧ off = off' := by simpa using hbe
               obtain ⟨x0, x1, x2, x3, x4⟩ := t; simp only at d0 d1 d2 d3 d4; clear hbe het ht; obtain ⟨inl, ma, mn, mc, ca, cn, cc, u, oa9, on9, oc9, e9, at9, hf⟩ := HI3.out.fields; go_wp2_with fail; refine (cB x3 w3 HI3.out hf).mono ?_; rintro r w4 ⟨⟨q, rfl, hq1, hq2⟩, h4⟩; have k4 := bZ h4 k3; have HI4 : Hid (In Γr w4 wb) := HI3.out.below h4; have HT4 : Hid (ai Γ w Γr w4) := HT3.out.trans (ai.of_below h4); have HX4 := qd (Bx.of_new (Γ := Γr) HI2.out.good (Nat.le_refl _) k4); clear h4 hf d0 d1 d2 d3 d4 k3
               by_cases hq0 : q = -1
               · subst hq0; obtain ⟨d0, d1, d2, d3, d4⟩ := cF k4; have hs4 := af k4; clear k4; go_wp2_with (at_builtin; go_must (refine aA (HI4.out.good.below (br.alloc (Nat.le_refl _) _)) aX rfl _ _ rfl (.slice oa on oc) on rfl hR.out ⟨w4.heap.size, 0, none⟩ 1 1 rfl (aC (f := ay.enc ⟨2, y1, y2, ⟨#[48]⟩, 0⟩) (al _ _) ⟨_, fun _ _ => rfl, kF HY.out (by decide) (by decide)⟩ (dx ⟨2, y1, y2, ⟨#[48]⟩, 0⟩)) (by omega) (by omega) ?_)); intro g6 c6 w6 Γ6 q1 q2 q3 _ _ _; have hq := (ai.of_below (Γ := Γr) ((Below.refl w4.heap.size w4).alloc (Nat.le_refl _) (.cells #[.int .i64 2, .int .i64 y1, .int .i64 y2, .string ⟨#[48]⟩, .int .i64 0] 31))).trans q2; have HI6 : Hid (In Γ6 w6 wb) := HI4.out.turn q1 hq; have HT6 : Hid (ai Γ w Γ6 w6) := HT4.out.trans hq; have HR6 := qd q3; clear q1 q2 q3 hq d0 d1 d2 d3 d4; go_wp2_with fail; go_roundw
                 case rel => exact ⟨Γ6, k + 2, on + 1, _, c6, by first | go_num | (congr 1; omega), by omega, rfl, by omega, HR6, HI6, HT6⟩
                 case measure => simp [intOf]; omega
               · have hq0' : (0 : Int) ≤ q := by omega
                 obtain ⟨d0, d1, d2, d3, d4⟩ := cF k4; have z3 := frozen_of_row w4 w2.heap.size 3 _ _ k4; have z4 := frozen_of_row w4 w2.heap.size 4 _ _ k4; have hs4 := af k4; clear k4
                 go_upto_region 17 with fail
                 generalize hW5 : World.setCell (World.setCell w4 _ _) _ _ = w5; have HX5 : Hid (Bx Γr w5 w2.heap.size (.cells #[.int .i64 2, .int .i64 y1, .int .i64 y2, .string ⟨#[49]⟩, .int .i64 1] 31 (0, 0))) := by
                  rw [← hW5]; exact (HX4.out.set 3 (.string ⟨#[49]⟩)).set 4 (.int .i64 1)
                 have HT5 : Hid (ai Γ w Γr w5) := by
                  rw [← hW5]; exact (HT4.out.box (Nat.le_trans hT.out.outs.size hsz2) 3 _).box (Nat.le_trans hT.out.outs.size hsz2) 4 _
                 have HI5 : Hid (In Γr w5 wb) := by
                  refine ⟨?_, HI4.out.at1⟩; rw [← hW5]; exact (HI4.out.good.box HX4.out.2 3 _).box HX4.out.2 4 _
                 clear hW5 z3 z4 d0 d1 d2 d3 d4 hs4; obtain ⟨d0, d1, d2, d3, d4⟩ := cF HX5.out.1; have hs4 := af HX5.out.1; go_wp2_with (at_builtin; go_must (refine aA (HI5.out.good.below (br.alloc (Nat.le_refl _) _)) aX rfl _ _ rfl (.slice oa on oc) on rfl hR.out ⟨w5.heap.size, 0, none⟩ 1 1 rfl (aC (f := ay.enc ⟨2, y1, y2, ⟨#[49]⟩, 1⟩) (al _ _) ⟨_, fun _ _ => rfl, kF HY.out (by decide) (by decide)⟩ (dx ⟨2, y1, y2, ⟨#[49]⟩, 1⟩)) (by omega) (by omega) ?_)); intro g6 c6 w6 Γ6 q1 q2 q3 _ _ _; have hq := (ai.of_below (Γ := Γr) ((Below.refl w5.heap.size w5).alloc (Nat.le_refl _) (.cells #[.int .i64 2, .int .i64 y1, .int .i64 y2, .string ⟨#[49]⟩, .int .i64 1] 31))).trans q2; have HI6 : Hid (In Γ6 w6 wb) := HI5.out.turn q1 hq; have HT6 : Hid (ai Γ w Γ6 w6) := HT5.out.trans hq; have HR6 := qd q3; clear q1 q2 q3 hq d0 d1 d2 d3 d4; go_wp2_with fail; go_roundw
                 case rel => exact ⟨Γ6, k + 2, on + 1, _, c6, by first | go_num | (congr 1; omega), by omega, rfl, by omega, HR6, HI6, HT6⟩
                 case measure => simp [intOf]; omega
            · have hx' : (x0 == 1) = false := by rw [beq_eq_false_iff_ne]; exact hx
              go_wp2_with fail; rw [HPP.out]; exact ⟨Γr, _, 0, false, rfl, HI2.out, HT2.out, Rw.nil _ _, by omega⟩
          · have hi1 : (l.length : Int) ≤ (k : Int) + 1 := by omega
            go_wp2_with fail; rw [HPP.out]; exact ⟨Γr, _, 0, false, rfl, HI2.out, HT2.out, Rw.nil _ _, by omega⟩
        | true =>
          by_cases hn2 : k + 2 < l.length
          · obtain ⟨b', off', t, hbe, hb7, het, ht, d0, d1, d2, d3, d4⟩ := HL2.out.tokAt (i := k + 2) hn2; obtain ⟨rfl, rfl⟩ : b = b' ∧ off = off' := by simpa using hbe
            obtain ⟨x0, x1, x2, x3, x4⟩ := t; simp only at d0 d1 d2 d3 d4; clear hbe het ht; obtain ⟨b', off', t, hbe, hb8, het, ht, e0, e1, e2, e3, e4⟩ := HL2.out.tokAt (i := k) hkn; obtain ⟨rfl, rfl⟩ : b = b' ∧ off = off' := by simpa using hbe
            obtain ⟨y0, y1, y2, y3, y4⟩ := t; simp only at e0 e1 e2 e3 e4; have HY := qd ht; clear hbe het ht; have hi1 : ¬ ((l.length : Int) ≤ (k : Int) + 2) := by omega
            have hi2 : (k : Int) + 2 < (l.length : Int) := by omega
            have hi3 : decide ((l.length : Int) ≤ (k : Int) + 2) = false := by simp; omega
            have hi4 : (k : Int) < (l.length : Int) := by omega
            by_cases hx : x0 = 1
            · have hx' : (x0 == 1) = true := by rw [beq_iff_eq]; exact hx
              have HX := qd hx; clear hx; go_wp2_with fail; go_region
              all_goals
               generalize hW3 : World.drew (World.alloc w2 _) = w3; have HB3 : Hid (Below w2.heap.size w2 w3) := by rw [← hW3]; exact (br.alloc (Nat.le_refl _) _).drew
               have k3 : w3.heap[w2.heap.size]? = some (.cells #[.int .i64 2, .int .i64 y1, .int .i64 y2, .string ⟨#[48]⟩, .int .i64 0] 31 (0, 0)) := by rw [← hW3]; exact al w2 _
               clear hW3 d0 d1 d2 d3 d4 e0 e1 e2 e3 e4; have HI3 : Hid (In Γr w3 wb) := HI2.out.below HB3.out; have HT3 : Hid (ai Γ w Γr w3) := HT2.out.trans (ai.of_below HB3.out); obtain ⟨b', off', t, hbe, hb7, het, ht, d0, d1, d2, d3, d4⟩ := (HL.out.turn HT3.out).tokAt (i := k + 2) hn2; obtain ⟨rfl, rfl⟩ : b = b' ∧ off = off' := by simpa using hbe
               obtain ⟨x0, x1, x2, x3, x4⟩ := t; simp only at d0 d1 d2 d3 d4; clear hbe het ht; obtain ⟨inl, ma, mn, mc, ca, cn, cc, u, oa9, on9, oc9, e9, at9, hf⟩ := HI3.out.fields; go_wp2_with fail; refine (cB x3 w3 HI3.out hf).mono ?_; rintro r w4 ⟨⟨q, rfl, hq1, hq2⟩, h4⟩; have k4 := bZ h4 k3; have HI4 : Hid (In Γr w4 wb) := HI3.out.below h4; have HT4 : Hid (ai Γ w Γr w4) := HT3.out.trans (ai.of_below h4); have HX4 := qd (Bx.of_new (Γ := Γr) HI2.out.good (Nat.le_refl _) k4); clear h4 hf d0 d1 d2 d3 d4 k3
               by_cases hq0 : q = -1
               · subst hq0; obtain ⟨d0, d1, d2, d3, d4⟩ := cF k4; have hs4 := af k4; clear k4; go_wp2_with (at_builtin; go_must (refine aA (HI4.out.good.below (br.alloc (Nat.le_refl _) _)) aX rfl _ _ rfl (.slice oa on oc) on rfl hR.out ⟨w4.heap.size, 0, none⟩ 1 1 rfl (aC (f := ay.enc ⟨2, y1, y2, ⟨#[48]⟩, 0⟩) (al _ _) ⟨_, fun _ _ => rfl, kF HY.out (by decide) (by decide)⟩ (dx ⟨2, y1, y2, ⟨#[48]⟩, 0⟩)) (by omega) (by omega) ?_)); intro g6 c6 w6 Γ6 q1 q2 q3 _ _ _; have hq := (ai.of_below (Γ := Γr) ((Below.refl w4.heap.size w4).alloc (Nat.le_refl _) (.cells #[.int .i64 2, .int .i64 y1, .int .i64 y2, .string ⟨#[48]⟩, .int .i64 0] 31))).trans q2; have HI6 : Hid (In Γ6 w6 wb) := HI4.out.turn q1 hq; have HT6 : Hid (ai Γ w Γ6 w6) := HT4.out.trans hq; have HR6 := qd q3; clear q1 q2 q3 hq d0 d1 d2 d3 d4; go_wp2_with fail; go_roundw
                 case rel => exact ⟨Γ6, k + 4, on + 1, _, c6, by first | go_num | (congr 1; omega), by omega, rfl, by omega, HR6, HI6, HT6⟩
                 case measure => simp [intOf]; omega
               · have hq0' : (0 : Int) ≤ q := by omega
                 obtain ⟨d0, d1, d2, d3, d4⟩ := cF k4; have z3 := frozen_of_row w4 w2.heap.size 3 _ _ k4; have z4 := frozen_of_row w4 w2.heap.size 4 _ _ k4; have hs4 := af k4; clear k4
                 go_upto_region 17 with fail
                 generalize hW5 : World.setCell (World.setCell w4 _ _) _ _ = w5; have HX5 : Hid (Bx Γr w5 w2.heap.size (.cells #[.int .i64 2, .int .i64 y1, .int .i64 y2, .string ⟨#[49]⟩, .int .i64 1] 31 (0, 0))) := by
                  rw [← hW5]; exact (HX4.out.set 3 (.string ⟨#[49]⟩)).set 4 (.int .i64 1)
                 have HT5 : Hid (ai Γ w Γr w5) := by
                  rw [← hW5]; exact (HT4.out.box (Nat.le_trans hT.out.outs.size hsz2) 3 _).box (Nat.le_trans hT.out.outs.size hsz2) 4 _
                 have HI5 : Hid (In Γr w5 wb) := by
                  refine ⟨?_, HI4.out.at1⟩; rw [← hW5]; exact (HI4.out.good.box HX4.out.2 3 _).box HX4.out.2 4 _
                 clear hW5 z3 z4 d0 d1 d2 d3 d4 hs4; obtain ⟨d0, d1, d2, d3, d4⟩ := cF HX5.out.1; have hs4 := af HX5.out.1; go_wp2_with (at_builtin; go_must (refine aA (HI5.out.good.below (br.alloc (Nat.le_refl _) _)) aX rfl _ _ rfl (.slice oa on oc) on rfl hR.out ⟨w5.heap.size, 0, none⟩ 1 1 rfl (aC (f := ay.enc ⟨2, y1, y2, ⟨#[49]⟩, 1⟩) (al _ _) ⟨_, fun _ _ => rfl, kF HY.out (by decide) (by decide)⟩ (dx ⟨2, y1, y2, ⟨#[49]⟩, 1⟩)) (by omega) (by omega) ?_)); intro g6 c6 w6 Γ6 q1 q2 q3 _ _ _; have hq := (ai.of_below (Γ := Γr) ((Below.refl w5.heap.size w5).alloc (Nat.le_refl _) (.cells #[.int .i64 2, .int .i64 y1, .int .i64 y2, .string ⟨#[49]⟩, .int .i64 1] 31))).trans q2; have HI6 : Hid (In Γ6 w6 wb) := HI5.out.turn q1 hq; have HT6 : Hid (ai Γ w Γ6 w6) := HT5.out.trans hq; have HR6 := qd q3; clear q1 q2 q3 hq d0 d1 d2 d3 d4; go_wp2_with fail; go_roundw
                 case rel => exact ⟨Γ6, k + 4, on + 1, _, c6, by first | go_num | (congr 1; omega), by omega, rfl, by omega, HR6, HI6, HT6⟩
                 case measure => simp [intOf]; omega
            · have hx' : (x0 == 1) = false := by rw [beq_eq_false_iff_ne]; exact hx
              go_wp2_with fail; rw [HPP.out]; exact ⟨Γr, _, 0, false, rfl, HI2.out, HT2.out, Rw.nil _ _, by omega⟩
          · have hi1 : (l.length : Int) ≤ (k : Int) + 2 := by omega
            go_wp2_with fail; rw [HPP.out]; exact ⟨Γr, _, 0, false, rfl, HI2.out, HT2.out, Rw.nil _ _, by omega⟩
      · have hq : (t3.toList == [100, 101, 102, 105, 110, 101, 100]) = false := by rw [show ([100, 101, 102, 105, 110, 101, 100] : List UInt8) = (⟨#[100, 101, 102, 105, 110, 101, 100]⟩ : ByteArray).toList from by rw [ByteArray.toList_eq], ce]; simp [hw]
        clear hw hk1'; obtain rfl := HK1.out; go_wp2_with (at_builtin; go_must (refine aA (hI.out.good.below (br.alloc (Nat.le_refl _) _)) aX rfl _ _ rfl (.slice oa on oc) on rfl hR.out ⟨wr.heap.size, 0, none⟩ 1 1 rfl (aC (f := ay.enc ⟨1, t1, t2, t3, t4⟩) (al _ _) ⟨_, fun _ _ => rfl, HTK.out⟩ (dx ⟨1, t1, t2, t3, t4⟩)) (by omega) (by omega) ?_)); intro g6 c6 w6 Γ6 q1 q2 q3 _ _ _; have hq := (ai.of_below (Γ := Γr) ((Below.refl wr.heap.size wr).alloc (Nat.le_refl _) (.cells #[.int .i64 1, .int .i64 t1, .int .i64 t2, .string t3, .int .i64 t4] 31))).trans q2; have HI6 : Hid (In Γ6 w6 wb) := hI.out.turn q1 hq; have HT6 : Hid (ai Γ w Γ6 w6) := hT.out.trans hq; have HR6 := qd q3; clear q1 q2 q3 hq d0 d1 d2 d3 d4; go_wp2_with fail; go_roundw
        case rel => exact ⟨Γ6, k + 1, on + 1, _, c6, by go_num, by omega, rfl, by omega, HR6, HI6, HT6⟩
        case measure => simp [intOf]; omega
    · have hk1' : (t0 == 1) = false := by rw [beq_eq_false_iff_ne]; exact hk1
      go_wp2_with (at_builtin; go_must (refine aA (hI.out.good.below (br.alloc (Nat.le_refl _) _)) aX rfl _ _ rfl (.slice oa on oc) on rfl hR.out ⟨wr.heap.size, 0, none⟩ 1 1 rfl (aC (f := ay.enc ⟨t0, t1, t2, t3, t4⟩) (al _ _) ⟨_, fun _ _ => rfl, HTK.out⟩ (dx ⟨t0, t1, t2, t3, t4⟩)) (by omega) (by omega) ?_)); intro g6 c6 w6 Γ6 q1 q2 q3 _ _ _; have hq := (ai.of_below (Γ := Γr) ((Below.refl wr.heap.size wr).alloc (Nat.le_refl _) (.cells #[.int .i64 t0, .int .i64 t1, .int .i64 t2, .string t3, .int .i64 t4] 31))).trans q2; have HI6 : Hid (In Γ6 w6 wb) := hI.out.turn q1 hq; have HT6 : Hid (ai Γ w Γ6 w6) := hT.out.trans hq; have HR6 := qd q3; clear q1 q2 q3 hq d0 d1 d2 d3 d4; go_wp2_with fail; go_roundw
      case rel => exact ⟨Γ6, k + 1, on + 1, _, c6, by go_num, by omega, rfl, by omega, HR6, HI6, HT6⟩
      case measure => simp [intOf]; omega
  · have hkn' : ¬ ((k : Int) < (l.length : Int)) := by omega
    go_wp2_with fail; rw [HPP.out]; exact ⟨Γr, _, on, true, rfl, hI.out, hT.out, hR.out, by omega⟩
end Go.Proofs.YthkebhjaaikopaaGreatDoor

/- Part of the proof of SyntaxLooseCardSaid (KG KH). -/
import Derived.Test.YthkebhjaaikopaaGreatDoorM22
import Derived.Deep.DeepCutAuto
set_option maxHeartbeats 8000000
set_option linter.unusedSimpArgs false
set_option linter.unusedVariables false
namespace Go.Proofs.YthkebhjaaikopaaGreatDoor
open Go.ChangeShapes Go.WideShapes Go.ChangeAt Go.RowKit Go.Deep Go.Joins Go.Instr
set_option maxRecDepth 100000 in
theorem jX (d : Nat) (hd : d ≤ 16) (hIH : d < 16 → ia (d + 1)) : ia d := by
 intro Γ wb a n c w h hv hn; have H := qd h; have HV := qd hv; have HIH := qd hIH; obtain ⟨PP, hPP⟩ : ∃ PP, PP = sZ Γ w wb d := ⟨_, rfl⟩; rw [← hPP]; have HPP := qd hPP; clear h hv hPP hIH; go_enter Tryz.func88, Tryz.ntmps88; go_wp2_with fail
 go_loopw [7, 8] (fun o i wr => ∃ (Γr : Gh) (k on : Nat) (oa : Option Addr) (oc : Nat), i = .int .i64 k ∧ k ≤ n ∧ o = .slice oa on oc ∧ on ≤ (17 - d) * 8200 ∧ Hid (Rw Γr .tok (.slice oa on oc) on) ∧ Hid (In Γr wr wb) ∧ Hid (ai Γ w Γr wr) ∧ Hid (on ≤ 8192 ∨ rH wr wb)) (fun _ i _ => n + 1 - (intOf i).toNat)
 case atStart => exact ⟨Γ, 0, 0, none, 0, rfl, by omega, rfl, by omega, Rw.nil _ _, H, ai.refl _ _, .inl (by omega)⟩
 case round =>
  obtain ⟨Γr, k, on, oa, oc, rfl, hk, rfl, hon, hR, hI, hT, hE⟩ := hrel; obtain ⟨inl, ma, mn, mc, ca, cn, cc, u, oa2, on2, oc2, e, at1, hf⟩ := hI.out.fields; have c5 := hf.c5; have hwb := hI.out.lt; have HF := qd hf; clear hf
  by_cases hkn : k < n
  · by_cases he : e = 0
    · subst he; have hon2 : on ≤ 8192 := by
       rcases hE.out with h | ⟨e, h1, h2⟩
       · exact h
       · rw [c5] at h1; injection h1 with h1; injection h1 with _ h1; exact absurd h1.symm h2
      obtain ⟨b, off, t, rfl, hb, ht, d0, d1, d2, d3, d4⟩ := (HV.out.le hT.out.le).tokAt hI.out.good hkn; obtain ⟨t0, t1, t2, t3, t4⟩ := t; simp only at d0 d1 d2 d3 d4; have HTK := qd ht; clear ht
      go_upto_if 36 with fail
      generalize hW1 : World.alloc wr _ = w1; have HB1 : Hid (Below wr.heap.size wr w1) := by rw [← hW1]; exact br.alloc (Nat.le_refl _) _
      have k1 : w1.heap[wr.heap.size]? = some (.cells #[.int .i64 t0, .int .i64 t1, .int .i64 t2, .string t3, .int .i64 t4] 31 (0, 0)) := by rw [← hW1]; exact al _ _
      clear hW1 d0 d1 d2 d3 d4; have HK1 := qd k1; clear k1
      by_cases h1 : t0 = 1
      · have h1' : (t0 == 1) = true := by rw [beq_iff_eq]; exact h1
        have H1 := qd h1; clear h1; obtain ⟨d0, d1, d2, d3, d4⟩ := cF HK1.out; have hs1 := af HK1.out; go_wp2_with fail; refine (cB t3 w1 (hI.out.below HB1.out) (HF.out.below HB1.out)).mono ?_; rintro e w2 ⟨⟨q, rfl, hq1, hq2⟩, h2⟩; have HB2 : Hid (Below wr.heap.size wr w2) := HB1.out.trans (h2.mono HB1.out.size); have HK2 := qd (bZ h2 HK1.out); clear h2 d0 d1 d2 d3 d4 hs1
        by_cases hq0 : q = -1
        · subst hq0; have HIa : Hid (In Γr w2 wb) := hI.out.below HB2.out; have HUa : Hid (ai Γ w Γr w2) := hT.out.trans (ai.of_below HB2.out); have HXa := qd (Bx.of_new (Γ := Γr) hI.out.good (Nat.le_refl _) HK2.out)
          go_upto_if 70 with fail
          refine fp rfl _ _ wb wr.heap.size d _ n c k _ oa on oc t0 t1 t2 t3 t4 w2 HIa.out (by omega) HXa.out HTK.out hR.out hon2 ?_; intro Γ3 oa3 oc3 w6 r71 r72 r73 r74 r75 r76 h1 h2 h3; have HI6 := qd h1; have HU6 := qd (HUa.out.trans h2); have HX6 := qd (HXa.out.turn h2); have HR6 := qd h3; clear h1 h2 h3
          go_upto_if 191 with fail
          refine df rfl _ wb wr.heap.size (on + 1) _ t0 t1 t2 t3 t4 w6 HI6.out ?_ HX6.out HTK.out.2.2.1 ?_
          focus (intro h; simp at h; omega)
          intro w8 r192 r193 r194 r195 h1 h2 h3; have HI8 := qd h1; have HU8 := qd (HU6.out.trans h2); have HR8 := qd (HR6.out.le h2.le); have HE8 := qd h3; clear h1 h2 h3; go_wp2_with fail; go_roundw
          case rel => exact ⟨Γ3, k + 1, (on + 1), _, _, by go_num, by omega, rfl, by omega, HR8, HI8, HU8, HE8⟩
          case measure => simp [intOf]; omega
        · obtain ⟨p, rfl⟩ : ∃ p : Nat, q = p := ⟨q.toNat, by omega⟩; have hpm : p < mn := by omega
          obtain ⟨mb, mo, s, wi, pa, pn, pc, ba, bn, bc, rfl, hmb, hp, hp8, hpn, hb2, hbn, g0, g1, g2, g3⟩ := HF.out.m.view.macAt hI.out.good hpm; have HPn := qd hpn; have HP := qd hp; have HBd := qd hb2; have HG := qd (And.intro g0 (And.intro g1 (And.intro g2 g3))); clear hpn hp hb2 g0 g1 g2 g3 hq0 hq1 hq2; have m1 := (HB2.out.cell (p := ⟨wb, 1, none⟩) hwb).trans HF.out.c1; have g1' := (HB2.out.cell (p := ⟨mb, mo + p * 4 + 1, none⟩) hmb).trans HG.out.2.1; have hs2 := HB2.out.size; cases wi with
          | false =>
            have HIa : Hid (In Γr w2 wb) := hI.out.below HB2.out; have HUa : Hid (ai Γ w Γr w2) := hT.out.trans (ai.of_below HB2.out); have HXa := qd (Bx.of_new (Γ := Γr) hI.out.good (Nat.le_refl _) HK2.out)
            go_upto_if 70 with fail
            refine jM rfl _ _ wb wr.heap.size d hd HIH.out _ n c k p oa on oc ⟨mb, mo, none⟩ mn mc s _ pa pn pc ba bn bc t0 t1 t2 t3 t4 w2 HIa.out (HV.out.le hT.out.le) hn hkn (fun h => by cases h) (by intro h; first | exact HPn.out h | exact HPn.out trivial) HXa.out HTK.out hR.out hon2 m1 hpm HF.out.mle mb mo rfl (Nat.lt_of_lt_of_le hmb HB2.out.size) HP.out HBd.out hbn ((HB2.out.cell (p := ⟨mb, mo + p * 4, none⟩) hmb).trans HG.out.1) ((HB2.out.cell (p := ⟨mb, mo + p * 4 + 1, none⟩) hmb).trans HG.out.2.1) ((HB2.out.cell (p := ⟨mb, mo + p * 4 + 2, none⟩) hmb).trans HG.out.2.2.1) ((HB2.out.cell (p := ⟨mb, mo + p * 4 + 3, none⟩) hmb).trans HG.out.2.2.2) ?_ ?_
            · intro Γ3 k3 on3 oa3 oc3 w6 r11 r12 r13 r14 r15 r16 r17 r18 r71 r72 r73 r74 r75 r76 r77 r78 r79 r80 r81 r82 r83 r84 r85 r86 r87 r88 r89 r90 r91 r92 r93 r94 r95 r96 r97 r98 r99 r100 r101 r102 r103 r104 r105 r106 r107 r108 r109 r110 r111 r112 r113 r114 r115 r116 r117 r118 r119 r120 r121 r122 r123 r124 r125 r126 r127 r128 r129 r130 r131 r132 r133 r134 r135 r136 r137 r138 r139 r140 r141 r142 r143 r144 r145 r146 r147 r148 r149 r150 r151 r152 r153 r154 r155 r156 r157 r158 r159 r160 r161 r162 r163 r164 r165 r166 r167 r168 r169 r170 r171 r172 r173 r174 r175 r176 r177 r178 r179 r180 r181 r182 r183 r184 r185 r186 r187 r188 h1 h2 h3 h4 h5 h6 h7; have HI6 := qd h1; have HU6 := qd (HUa.out.trans h2); have HX6 := qd (HXa.out.turn h2); have HR6 := qd h3; clear h1 h2 h3
              go_upto_if 191 with fail
              refine df rfl _ wb wr.heap.size on3 _ t0 t1 t2 t3 t4 w6 HI6.out ?_ HX6.out HTK.out.2.2.1 ?_
              focus (intro h; simp at h; omega)
              intro w8 r192 r193 r194 r195 h1 h2 h3; have HI8 := qd h1; have HU8 := qd (HU6.out.trans h2); have HR8 := qd (HR6.out.le h2.le); have HE8 := qd h3; clear h1 h2 h3; go_wp2_with fail; go_roundw
              case rel => exact ⟨Γ3, k3, on3, _, _, rfl, by omega, rfl, by omega, HR8, HI8, HU8, HE8⟩
              case measure => simp [intOf]; omega
            · intro Γ3 w6 r11 r12 r13 r14 r15 r16 r17 r18 r71 r72 r73 r74 r75 r76 r77 r78 r79 r80 r81 r82 r83 r84 r85 r86 r87 r88 r89 r90 r91 r92 r93 r94 r95 r96 r97 r98 r99 r100 r101 r102 r103 r104 r105 r106 r107 r108 r109 r110 r111 r112 r113 r114 r115 r116 r117 r118 r119 r120 r121 r122 r123 r124 r125 r126 r127 r128 r129 r130 r131 r132 r133 r134 r135 r136 r137 r138 r139 r140 r141 r142 r143 r144 r145 r146 r147 r148 r149 r150 r151 r152 r153 r154 r155 r156 r157 r158 r159 r160 r161 r162 r163 r164 r165 r166 r167 r168 r169 r170 r171 r172 r173 r174 r175 r176 r177 r178 r179 r180 r181 r182 r183 r184 r185 r186 r187 r188 h1 h2; have HI6 := qd h1; have HU6 := qd (HUa.out.trans h2); clear h1 h2; go_wp2_with fail; rw [HPP.out]; exact ⟨Γ3, _, 0, rfl, HI6.out, HU6.out, Rw.nil _ _, by omega⟩
          | true =>
            by_cases hk1 : k + 1 < n
            · obtain ⟨b', off', y, hbe, hb', hy, d0, d1, d2, d3, d4⟩ := ((HV.out.le hT.out.le).tokAt (hI.out.below HB2.out).good hk1); obtain ⟨rfl, rfl⟩ : b = b' ∧ off = off' := by simpa using hbe
              obtain ⟨y0, y1, y2, y3, y4⟩ := y; simp only at d0 d1 d2 d3 d4; clear hbe hy; have hk2 : (k : Int) + 1 < (n : Int) := by omega
              go_wp2_with fail; refine (bI ⟨y0, y1, y2, y3, y4⟩ _ w2).mono ?_; rintro e w3 ⟨⟨b3, rfl⟩, h3⟩; have HB3 : Hid (Below wr.heap.size wr w3) := HB2.out.trans (h3.mono HB2.out.size); have HK3 := qd (bZ h3 HK2.out); clear h3 d0 d1 d2 d3 d4 m1 g1' hk2; cases b3 with
              | true =>
                have m1 := (HB3.out.cell (p := ⟨wb, 1, none⟩) hwb).trans HF.out.c1; have HIa : Hid (In Γr w3 wb) := hI.out.below HB3.out; have HUa : Hid (ai Γ w Γr w3) := hT.out.trans (ai.of_below HB3.out); have HXa := qd (Bx.of_new (Γ := Γr) hI.out.good (Nat.le_refl _) HK3.out)
                go_upto_if 70 with fail
                refine jM rfl _ _ wb wr.heap.size d hd HIH.out _ n c k p oa on oc ⟨mb, mo, none⟩ mn mc s _ pa pn pc ba bn bc t0 t1 t2 t3 t4 w3 HIa.out (HV.out.le hT.out.le) hn hkn (fun _ => hk1) (by intro h; first | exact HPn.out h | exact HPn.out trivial) HXa.out HTK.out hR.out hon2 m1 hpm HF.out.mle mb mo rfl (Nat.lt_of_lt_of_le hmb HB3.out.size) HP.out HBd.out hbn ((HB3.out.cell (p := ⟨mb, mo + p * 4, none⟩) hmb).trans HG.out.1) ((HB3.out.cell (p := ⟨mb, mo + p * 4 + 1, none⟩) hmb).trans HG.out.2.1) ((HB3.out.cell (p := ⟨mb, mo + p * 4 + 2, none⟩) hmb).trans HG.out.2.2.1) ((HB3.out.cell (p := ⟨mb, mo + p * 4 + 3, none⟩) hmb).trans HG.out.2.2.2) ?_ ?_
                · intro Γ3 k3 on3 oa3 oc3 w6 r11 r12 r13 r14 r15 r16 r17 r18 r71 r72 r73 r74 r75 r76 r77 r78 r79 r80 r81 r82 r83 r84 r85 r86 r87 r88 r89 r90 r91 r92 r93 r94 r95 r96 r97 r98 r99 r100 r101 r102 r103 r104 r105 r106 r107 r108 r109 r110 r111 r112 r113 r114 r115 r116 r117 r118 r119 r120 r121 r122 r123 r124 r125 r126 r127 r128 r129 r130 r131 r132 r133 r134 r135 r136 r137 r138 r139 r140 r141 r142 r143 r144 r145 r146 r147 r148 r149 r150 r151 r152 r153 r154 r155 r156 r157 r158 r159 r160 r161 r162 r163 r164 r165 r166 r167 r168 r169 r170 r171 r172 r173 r174 r175 r176 r177 r178 r179 r180 r181 r182 r183 r184 r185 r186 r187 r188 h1 h2 h3 h4 h5 h6 h7; have HI6 := qd h1; have HU6 := qd (HUa.out.trans h2); have HX6 := qd (HXa.out.turn h2); have HR6 := qd h3; clear h1 h2 h3
                  go_upto_if 191 with fail
                  refine df rfl _ wb wr.heap.size on3 _ t0 t1 t2 t3 t4 w6 HI6.out ?_ HX6.out HTK.out.2.2.1 ?_
                  focus (intro h; simp at h; omega)
                  intro w8 r192 r193 r194 r195 h1 h2 h3; have HI8 := qd h1; have HU8 := qd (HU6.out.trans h2); have HR8 := qd (HR6.out.le h2.le); have HE8 := qd h3; clear h1 h2 h3; go_wp2_with fail; go_roundw
                  case rel => exact ⟨Γ3, k3, on3, _, _, rfl, by omega, rfl, by omega, HR8, HI8, HU8, HE8⟩
                  case measure => simp [intOf]; omega
                · intro Γ3 w6 r11 r12 r13 r14 r15 r16 r17 r18 r71 r72 r73 r74 r75 r76 r77 r78 r79 r80 r81 r82 r83 r84 r85 r86 r87 r88 r89 r90 r91 r92 r93 r94 r95 r96 r97 r98 r99 r100 r101 r102 r103 r104 r105 r106 r107 r108 r109 r110 r111 r112 r113 r114 r115 r116 r117 r118 r119 r120 r121 r122 r123 r124 r125 r126 r127 r128 r129 r130 r131 r132 r133 r134 r135 r136 r137 r138 r139 r140 r141 r142 r143 r144 r145 r146 r147 r148 r149 r150 r151 r152 r153 r154 r155 r156 r157 r158 r159 r160 r161 r162 r163 r164 r165 r166 r167 r168 r169 r170 r171 r172 r173 r174 r175 r176 r177 r178 r179 r180 r181 r182 r183 r184 r185 r186 r187 r188 h1 h2; have HI6 := qd h1; have HU6 := qd (HUa.out.trans h2); clear h1 h2; go_wp2_with fail; rw [HPP.out]; exact ⟨Γ3, _, 0, rfl, HI6.out, HU6.out, Rw.nil _ _, by omega⟩
              | false =>
                clear HB2 HK2; have HIa : Hid (In Γr w3 wb) := hI.out.below HB3.out; have HUa : Hid (ai Γ w Γr w3) := hT.out.trans (ai.of_below HB3.out); have HXa := qd (Bx.of_new (Γ := Γr) hI.out.good (Nat.le_refl _) HK3.out)
                go_upto_if 70 with fail
                refine fp rfl _ _ wb wr.heap.size d _ n c k _ oa on oc t0 t1 t2 t3 t4 w3 HIa.out (by omega) HXa.out HTK.out hR.out hon2 ?_; intro Γ3 oa3 oc3 w6 r71 r72 r73 r74 r75 r76 h1 h2 h3; have HI6 := qd h1; have HU6 := qd (HUa.out.trans h2); have HX6 := qd (HXa.out.turn h2); have HR6 := qd h3; clear h1 h2 h3
                go_upto_if 191 with fail
                refine df rfl _ wb wr.heap.size (on + 1) _ t0 t1 t2 t3 t4 w6 HI6.out ?_ HX6.out HTK.out.2.2.1 ?_
                focus (intro h; simp at h; omega)
                intro w8 r192 r193 r194 r195 h1 h2 h3; have HI8 := qd h1; have HU8 := qd (HU6.out.trans h2); have HR8 := qd (HR6.out.le h2.le); have HE8 := qd h3; clear h1 h2 h3; go_wp2_with fail; go_roundw
                case rel => exact ⟨Γ3, k + 1, (on + 1), _, _, by go_num, by omega, rfl, by omega, HR8, HI8, HU8, HE8⟩
                case measure => simp [intOf]; omega
            · have hk2 : ¬ ((k : Int) + 1 < (n : Int)) := by omega
              have HIa : Hid (In Γr w2 wb) := hI.out.below HB2.out; have HUa : Hid (ai Γ w Γr w2) := hT.out.trans (ai.of_below HB2.out); have HXa := qd (Bx.of_new (Γ := Γr) hI.out.good (Nat.le_refl _) HK2.out)
              go_upto_if 70 with fail
              refine fp rfl _ _ wb wr.heap.size d _ n c k _ oa on oc t0 t1 t2 t3 t4 w2 HIa.out (by omega) HXa.out HTK.out hR.out hon2 ?_; intro Γ3 oa3 oc3 w6 r71 r72 r73 r74 r75 r76 h1 h2 h3; have HI6 := qd h1; have HU6 := qd (HUa.out.trans h2); have HX6 := qd (HXa.out.turn h2); have HR6 := qd h3; clear h1 h2 h3
              go_upto_if 191 with fail
              refine df rfl _ wb wr.heap.size (on + 1) _ t0 t1 t2 t3 t4 w6 HI6.out ?_ HX6.out HTK.out.2.2.1 ?_
              focus (intro h; simp at h; omega)
              intro w8 r192 r193 r194 r195 h1 h2 h3; have HI8 := qd h1; have HU8 := qd (HU6.out.trans h2); have HR8 := qd (HR6.out.le h2.le); have HE8 := qd h3; clear h1 h2 h3; go_wp2_with fail; go_roundw
              case rel => exact ⟨Γ3, k + 1, (on + 1), _, _, by go_num, by omega, rfl, by omega, HR8, HI8, HU8, HE8⟩
              case measure => simp [intOf]; omega
      · have h1' : (t0 == 1) = false := by rw [beq_eq_false_iff_ne]; exact h1
        have HIa : Hid (In Γr w1 wb) := hI.out.below HB1.out; have HUa : Hid (ai Γ w Γr w1) := hT.out.trans (ai.of_below HB1.out); have HXa := qd (Bx.of_new (Γ := Γr) hI.out.good (Nat.le_refl _) HK1.out); obtain ⟨d0, d1, d2, d3, d4⟩ := cF HK1.out; have hs1 := af HK1.out
        go_upto_if 70 with fail
        refine fp rfl _ _ wb wr.heap.size d _ n c k _ oa on oc t0 t1 t2 t3 t4 w1 HIa.out (by omega) HXa.out HTK.out hR.out hon2 ?_; intro Γ3 oa3 oc3 w6 r71 r72 r73 r74 r75 r76 h1 h2 h3; have HI6 := qd h1; have HU6 := qd (HUa.out.trans h2); have HX6 := qd (HXa.out.turn h2); have HR6 := qd h3; clear h1 h2 h3
        go_upto_if 191 with fail
        refine df rfl _ wb wr.heap.size (on + 1) _ t0 t1 t2 t3 t4 w6 HI6.out ?_ HX6.out HTK.out.2.2.1 ?_
        focus (intro h; simp at h; omega)
        intro w8 r192 r193 r194 r195 h1 h2 h3; have HI8 := qd h1; have HU8 := qd (HU6.out.trans h2); have HR8 := qd (HR6.out.le h2.le); have HE8 := qd h3; clear h1 h2 h3; go_wp2_with fail; go_roundw
        case rel => exact ⟨Γ3, k + 1, (on + 1), _, _, by go_num, by omega, rfl, by omega, HR8, HI8, HU8, HE8⟩
        case measure => simp [intOf]; omega
    · have he' : (e == 0) = false := by rw [beq_eq_false_iff_ne]; exact he
      go_wp2_with fail; rw [HPP.out]; exact ⟨Γr, _, on, rfl, hI.out, hT.out, hR.out, hon⟩
  · go_wp2_with fail; rw [HPP.out]; exact ⟨Γr, _, on, rfl, hI.out, hT.out, hR.out, hon⟩
theorem iX : ∀ (m d : Nat), d + m = 16 → ia d
 | 0, d, h => jX d (by omega) (fun h' => absurd h' (by omega))
 | m + 1, d, h => jX d (by omega) (fun _ => iX m (d + 1) (by omega))
end Go.Proofs.YthkebhjaaikopaaGreatDoor
set_option linter.unusedSimpArgs false
set_option linter.unusedVariables false
namespace Go.Proofs.YthkebhjaaikopaaGreatDoor
open Go.ChangeShapes Go.WideShapes Go.ChangeAt Go.RowKit Go.Deep Go.Joins Go.Instr
def cC (Γ : Gh) (w : World) (wb : Nat) (e : Ending) (w' : World) : Prop := ∃ Γ', e = .returned (.tuple #[]) ∧ In Γ' w' wb ∧ ai Γ w Γ' w'
theorem cC.of_fails {Γ Γ1 : Gh} {w w1 : World} {wb : Nat} (h : ai Γ w Γ1 w1) {r : Ending} {w' : World} (hr : r = .returned (.tuple #[]) ∧ In Γ1 w' wb ∧ ai Γ1 w1 Γ1 w' ∧ rH w' wb) : cC Γ w wb r w' := ⟨Γ1, hr.1, hr.2.1, h.trans hr.2.2.1⟩
theorem fh {Γ : Gh} {wb : Nat} (a : Option Addr) (n c : Nat) (w : World) (h : In Γ w wb) (hv : ci Γ .tok (.slice a n c) n) (hn : n ≤ 1000000) :
 Calls Tryz.prog 37 #[.pointer (some ⟨wb, 0, none⟩), .slice a n c] w (cC Γ w wb) := by
 obtain ⟨inl, ma, mn, mc, ca, cn, cc, u, oa, on, oc, e, at1, hf⟩ := h.fields; have c5 := hf.c5; have hwb := h.lt; have H := qd h; have HV := qd hv; obtain ⟨PP, hPP⟩ : ∃ PP, PP = cC Γ w wb := ⟨_, rfl⟩; rw [← hPP]; have HPP := qd hPP; clear h hv hPP hf
 by_cases he : e = 0
 · subst he; go_enter Tryz.func37, Tryz.ntmps37; go_wp2_with fail; refine (iX 16 0 (by omega) Γ wb a n c w H.out HV.out hn).mono ?_; rintro e w1 ⟨Γ1, v1, n1, rfl, h1, h2, h3, h4⟩; obtain ⟨a1, c1, rfl⟩ := h3.slice; have H1 := qd h1; have HU1 := qd h2; have HR1 := qd h3; have hn1 : n1 ≤ 139400 := by omega
   clear h1 h2 h3 h4 c5; go_wp2_with fail
   go_loopw [5] (fun i wr => ∃ (Γr : Gh) (k : Nat), i = .int .i64 k ∧ k ≤ n1 ∧ Hid (In Γr wr wb) ∧ Hid (ai Γ w Γr wr) ∧ Hid (Γ1.le Γr)) (fun i _ => n1 + 1 - (intOf i).toNat)
   case atStart => exact ⟨Γ1, 0, rfl, by omega, H1, HU1, Gh.le.refl _⟩
   case round =>
    obtain ⟨Γr, k, rfl, hk, hI, hT, hL⟩ := hrel
    by_cases hk1 : k < n1
    · obtain ⟨inl, ma, mn, mc, ca, cn, cc, u, oa, on, oc, e, at1, hf⟩ := hI.out.fields; have c4 := hf.c4; have f4 := hf.free 4; have hwr := hI.out.lt; have hol := hf.ole; have HO := qd hf.o; clear hf; obtain ⟨b, off, t, rfl, hb, ht, d0, d1, d2, d3, d4⟩ := (HR1.out.view.le hL.out).tokAt hI.out.good hk1; obtain ⟨t0, t1, t2, t3, t4⟩ := t; simp only at d0 d1 d2 d3 d4; have HTK := qd ht; clear ht
      by_cases ho : on = 8192
      · have ho' : ((on : Int) == 8192) = true := by rw [beq_iff_eq]; omega
        clear ho; go_wp2_with fail; refine (aB 8 t1 wr hI.out (by decide) HTK.out.2.2.1 (by decide)).mono ?_; rintro e w6 ⟨rfl, h1, h2, h3⟩; have HZ := qd (cC.of_fails hT.out ⟨rfl, h1, h2, h3⟩); clear h1 h2 h3; go_wp2_with fail
        go_end0
        rw [HPP.out]; exact HZ.out
      · have ho' : ((on : Int) == 8192) = false := by rw [beq_eq_false_iff_ne]; omega
        have HE5 : Hid (∀ j, j < Rl.tok.sz → (#[Value.int .i64 t0, .int .i64 t1, .int .i64 t2, .string t3, .int .i64 t4] : Array Value)[j]? = some (ay.enc ⟨t0, t1, t2, t3, t4⟩ j)) := dx ⟨t0, t1, t2, t3, t4⟩; go_wp2_with fail
        go_region_law ((refine cu (hI.out.drew.good.below (br.alloc (Nat.le_refl _) _)) aX rfl (.tmp 37) (.tmp 42) rfl (.slice oa on oc) on rfl HO.out ⟨wr.heap.size, 0, none⟩ 1 1 rfl (aC (f := ay.enc ⟨t0, t1, t2, t3, t4⟩) (al _ _) ⟨_, fun _ _ => rfl, HTK.out⟩ HE5.out) (by omega) (by omega) ?_; intro g7 c7 w6 Γ6 q1 q2 q3 _ _ _; have i6 := (hI.out.drew.below ((Below.refl wr.drew.heap.size wr.drew).alloc (Nat.le_refl _) (.cells #[.int .i64 t0, .int .i64 t1, .int .i64 t2, .string t3, .int .i64 t4] 31))).turn q1 q2; obtain ⟨inl6, ma6, mn6, mc6, ca6, cn6, cc6, u6, oa6, on6, oc6, e6, at6, hf6⟩ := i6.fields; have x6 := hf6.c4; have z6 := hf6.free 4))
        all_goals
         have hq := ((ai.of_below (Γ := Γr) ((br.drew).alloc (by simp) (.cells #[.int .i64 t0, .int .i64 t1, .int .i64 t2, .string t3, .int .i64 t4] 31))).trans q2); have HI7 := qd (i6.setO q3 (by omega)); have HT7 := qd ((hT.out.trans hq).trans (ai.setCell (w := w6) i6.ne 4 (.slice (some ⟨g7, 0, none⟩) (on + 1) c7))); have HL7 := qd (hL.out.trans hq.le); clear q1 q2 q3 hq hf6 i6; go_wp2_with fail; go_roundw
         case rel => exact ⟨Γ6, k + 1, by go_num, by omega, HI7, HT7, HL7⟩
         case measure => simp [intOf]; omega
    · obtain rfl : k = n1 := by omega
      go_wp2_with fail
      go_end0
      rw [HPP.out]; exact ⟨Γr, rfl, hI.out, hT.out⟩
 · have he' : (e == 0) = false := by rw [beq_eq_false_iff_ne]; exact he
   go_enter Tryz.func37, Tryz.ntmps37; go_wp2_with fail
   go_end0
   rw [HPP.out]; exact ⟨Γ, rfl, H.out, ai.refl _ _⟩
theorem nr (v : Value) (l : List ay) (w : World) (hs : Sl w 5 ay.enc v l) :
 Calls Tryz.prog 92 #[v] w fun e w' => (∃ b, e = .returned (.bool b) ∧ (b = true → l.length = 1)) ∧ Below w.heap.size w w' := by
 obtain ⟨aa, ca, rfl, ma, HA⟩ := aV hs; clear hs
 by_cases h1 : l.length = 1
 · obtain ⟨b, o, rfl, hb, hc⟩ := HA.out (by omega); have c0 := hc 0 (by omega) 0 (by omega); simp only [ay.enc, Nat.zero_mul, Nat.add_zero] at c0; have h1' : ((l.length : Int) == 1) = true := by rw [beq_iff_eq]; omega
   have H1 := qd h1; have hl : (0 : Int) < (l.length : Int) := by omega
   clear hc h1; generalize (l.getD 0 default).kind = x at *; go_enter Tryz.func92, Tryz.ntmps92; go_wp2; go_ret; exact ⟨⟨_, rfl, fun _ => H1.out⟩, by go_grown⟩
 · have h1' : ((l.length : Int) == 1) = false := by rw [beq_eq_false_iff_ne]; omega
   have H1 := qd h1; clear h1; go_enter Tryz.func92, Tryz.ntmps92; go_wp2; go_ret; exact ⟨⟨false, rfl, fun h => by cases h⟩, by go_grown⟩
theorem iD {Γ : Gh} {wb : Nat} (is : Bool) (at0 : Int) (w : World) (h : In Γ w wb) (ha : dC at0) :
 Calls Tryz.prog 90 #[.pointer (some ⟨wb, 0, none⟩), .bool is, .int .i64 at0] w (cC Γ w wb) := by
 obtain ⟨inl, ma, mn, mc, ca, cn, cc, u, oa, on, oc, e, at1, hf⟩ := h.fields; have c2 := hf.c2; have hwb := h.lt; have hcl := hf.cle; have HC := qd hf.c; have H := qd h; have HF := qd hf; have HA := qd ha; obtain ⟨PP, hPP⟩ : ∃ PP, PP = cC Γ w wb := ⟨_, rfl⟩; rw [← hPP]; have HPP := qd hPP; clear h hf hPP ha
 by_cases hc : cn = 16
 · have hc' : ((cn : Int) == 16) = true := by rw [beq_iff_eq]; omega
   clear hc; go_enter Tryz.func90, Tryz.ntmps90; go_wp2_with fail; refine (aB 7 at0 w H.out (by decide) HA.out (by decide)).mono ?_; rintro e w6 ⟨rfl, h1, h2, h3⟩; have HZ := qd (cC.of_fails (ai.refl _ _) ⟨rfl, h1, h2, h3⟩); clear h1 h2 h3; go_wp2_with fail
   go_end0
   rw [HPP.out]; exact HZ.out
 · have hc' : ((cn : Int) == 16) = false := by rw [beq_eq_false_iff_ne]; omega
   go_enter Tryz.func90, Tryz.ntmps90; go_wp2_with fail; refine (cm w H.out).mono ?_; rintro e w1 ⟨⟨kp, rfl⟩, h1⟩; have HB1 := qd h1; have hwb1 := h1.size; have c21 := (h1.cell (p := ⟨wb, 2, none⟩) hwb).trans c2; have HI1 : Hid (In Γ w1 wb) := H.out.below h1; clear h1 c2; cases kp <;> cases is
   all_goals
    go_wp2_with (at_builtin; go_must (refine aA (HI1.out.good.below (br.alloc (Nat.le_refl _) _)) sA rfl _ _ rfl (.slice ca cn cc) cn rfl HC.out ⟨w1.heap.size, 0, none⟩ 1 1 rfl (aC (f := fun j => (#[Value.bool _, .bool _, .bool _, .bool _] : Array Value).getD j undef) (al _ _) (fun j hj => by match j, hj with | 0, _ => exact ⟨_, rfl⟩ | 1, _ => exact ⟨_, rfl⟩ | 2, _ => exact ⟨_, rfl⟩ | 3, _ => exact ⟨_, rfl⟩) (fun j hj => by match j, hj with | 0, _ => rfl | 1, _ => rfl | 2, _ => rfl | 3, _ => rfl | q + 4, hj => exact absurd hj (by simp [Rl.sz]))) (by omega) (by omega) ?_)); intro g6 c6 w6 Γ6 q1 q2 q3 _ _ _; have hq := (ai.of_below (Γ := Γ) (HB1.out.trans ((Below.refl w1.heap.size w1).alloc (Nat.le_refl _) _ |>.mono HB1.out.size))).trans q2; have i6 : In Γ6 w6 wb := H.out.turn q1 hq; obtain ⟨inl6, ma6, mn6, mc6, ca6, cn6, cc6, u6, oa6, on6, oc6, e6, at6, hf6⟩ := i6.fields; have x6 := hf6.c2; have z6 := hf6.free 2; have HI7 := qd (i6.setC q3 (by omega)); have HT7 := qd (hq.trans (ai.setCell (w := w6) i6.ne 2 (.slice (some ⟨g6, 0, none⟩) (cn + 1) c6))); clear q1 q2 q3 hq hf6 i6; go_wp2_with fail
    go_end0
    rw [HPP.out]; exact ⟨Γ6, rfl, HI7.out, HT7.out⟩
end Go.Proofs.YthkebhjaaikopaaGreatDoor

/- Part of the proof of SyntaxLooseCardSaid (KF). -/
import Derived.Test.YthkebhjaaikopaaGreatDoorM20
set_option maxHeartbeats 8000000
set_option linter.unusedSimpArgs false
set_option linter.unusedVariables false
namespace Go.Proofs.YthkebhjaaikopaaGreatDoor
open Go.ChangeShapes Go.WideShapes Go.ChangeAt Go.RowKit Go.Deep Go.Joins Go.Instr
instance (n : Int) : Decidable (dC n) := by unfold dC; infer_instance
def eS (s : ByteArray) : ay := ⟨4, 0, 0, s, 0⟩
theorem fP (s : ByteArray) (hs : s.size ≤ 1000000) : dt (eS s) := ⟨(by decide : (4 : Int) ≠ 0), hs, (by decide : dC 0), (by decide : dC 0), (by decide : dC 0), (by decide : dC 4)⟩
theorem dx (t : ay) : ∀ j, j < Rl.tok.sz → (#[Value.int .i64 t.kind, .int .i64 t.at1, .int .i64 t.line, .string t.text, .int .i64 t.n] : Array Value)[j]? = some (ay.enc t j) := fun j hj => by
 match j, hj with
 | 0, _ => rfl
 | 1, _ => rfl
 | 2, _ => rfl
 | 3, _ => rfl
 | 4, _ => rfl
 | q + 5, hj => exact absurd hj (by simp [Rl.sz])
theorem bP {Γ : Gh} {w : World} {g n c i j : Nat} {x : Int} (hG : aD Γ w) (hR : Rw Γ .tok (.slice (some ⟨g, 0, none⟩) n c) n) (hi : i < n) (hj : j = 1 ∨ j = 2) (hx : dC x) : aD Γ (w.setCell ⟨g, i * 5 + j, none⟩ (.int .i64 x)) ∧ ai Γ w Γ (w.setCell ⟨g, i * 5 + j, none⟩ (.int .i64 x)) := by
 rcases hR with ⟨h, _⟩ | ⟨g', cap, m, h, h2, h3, _⟩
 · cases h
 · simp only [Value.slice.injEq, Option.some.injEq, Addr.mk.injEq, and_true, true_and] at h; obtain ⟨rfl, rfl⟩ := h; refine ⟨hG.setCell h2 (i := i) (j := j) (by omega) (by rcases hj with rfl | rfl <;> decide) rfl fun f hf _ => ?_, ai.setCell (by rw [h2]; simp) _ _⟩; obtain ⟨t, k1, k2, k3, k4, k5, k6, k7⟩ := hf; rcases hj with rfl | rfl
   · refine ⟨⟨t.kind, x, t.line, t.text, t.n⟩, fun q hq => ?_, k2, k3, hx, k5, k6, k7⟩; show (if q = 1 then Value.int .i64 x else f q) = _
     by_cases e : q = 1
     · subst e; rfl
     · rw [if_neg e, k1 q hq]
       match q, hq, e with
       | 0, _, _ => rfl
       | 2, _, _ => rfl
       | 3, _, _ => rfl
       | 4, _, _ => rfl
   · refine ⟨⟨t.kind, t.at1, x, t.text, t.n⟩, fun q hq => ?_, k2, k3, k4, hx, k6, k7⟩; show (if q = 2 then Value.int .i64 x else f q) = _
     by_cases e : q = 2
     · subst e; rfl
     · rw [if_neg e, k1 q hq]
       match q, hq, e with
       | 0, _, _ => rfl
       | 1, _, _ => rfl
       | 3, _, _ => rfl
       | 4, _, _ => rfl
theorem ci.rowAt {Γ : Gh} {w : World} {a : Option Addr} {n c i : Nat} (hG : aD Γ w) (hv : ci Γ .row (.slice a n c) n) (hi : i < n) : ∃ b off ea en ec, a = some ⟨b, off, none⟩ ∧ b < w.heap.size ∧ Rw Γ .tok (.slice ea en ec) en ∧ en ≤ 2000000 ∧ w.cell? ⟨b, off + i, none⟩ = some (.slice ea en ec) := by
 obtain ⟨a', cap, e, h2, h3, h4⟩ := hv.cells hG; injection e with e1 _ _; subst e1; obtain ⟨b, off, h5, h6, _, h7⟩ := h4 (by omega); obtain ⟨f, ⟨en, t1, t2⟩, f3⟩ := h7 i hi; obtain ⟨ea, ec, h8⟩ := t1.slice; refine ⟨b, off, ea, en, ec, h5, h6, h8 ▸ t1, t2, ?_⟩; have := f3 0 (by decide); simpa [Rl.sz, h8] using this
theorem Rw.pos {Γ : Gh} {r : Rl} {a : Option Addr} {n c : Nat} (h : Rw Γ r (.slice a n c) n) (hn : 0 < n) : ∃ g, a = some ⟨g, 0, none⟩ := by
 rcases h with ⟨_, h⟩ | ⟨g, cap, m, e, _⟩
 · omega
 · injection e with e1; exact ⟨g, e1⟩
theorem Rw.some {Γ : Gh} {r : Rl} {g n c : Nat} (h : Rw Γ r (.slice (some ⟨g, 0, none⟩) n c) n) : Γ g ≠ none := by
 rcases h with ⟨h, _⟩ | ⟨g', cap, m, e, h2, _⟩
 · cases h
 · injection e with e1; simp only [Option.some.injEq, Addr.mk.injEq, and_true] at e1; rw [e1, h2]; simp
def tf (Γ : Gh) (w : World) (wb : Nat) (e : Ending) (w' : World) : Prop := ∃ Γ' v n, e = .returned v ∧ In Γ' w' wb ∧ ai Γ w Γ' w' ∧ Rw Γ' .tok v n ∧ n ≤ 8200
theorem ro {Γ : Gh} {wb : Nat} (nm : ByteArray) (wi : Bool) (pa : Option Addr) (pn pc : Nat) (ba : Option Addr) (bn bc : Nat) (aa : Option Addr) (an ac : Nat) (t : ay) (w : World) (h : In Γ w wb) (hp : ci Γ .str (.slice pa pn pc) pn) (hb : ci Γ .tok (.slice ba bn bc) bn) (hbn : bn ≤ 1000000) (ha : ci Γ .row (.slice aa an ac) an) (hpa : pn ≤ an) (ht : dt t) :
 Calls Tryz.prog 136 #[.pointer (some ⟨wb, 0, none⟩), .agg #[.string nm, .bool wi, .slice pa pn pc, .slice ba bn bc], .slice aa an ac, t.val] w (tf Γ w wb) := by
 have H := qd h; have HP := qd hp; have HB := qd hb; have HA := qd ha; have HK := qd ht; have hlt := h.lt; obtain ⟨t0, t1, t2, t3, t4⟩ := t; unfold ay.val; obtain ⟨PP, hPP⟩ : ∃ PP, PP = tf Γ w wb := ⟨_, rfl⟩; rw [← hPP]; have HPP := qd hPP; clear h hp hb ha ht hPP; go_enter Tryz.func136, Tryz.ntmps136; obtain ⟨inl, ma, mn, mc, ca, cn, cc, u, oa, on, oc, e, at1, hf⟩ := H.out.fields; have c0 := hf.c0; clear hf; have HG1 : Hid (∀ W, ((w.alloc (.cells #[.string nm, .bool wi, .slice pa pn pc, .slice ba bn bc] 116)).alloc (.cells #[.int .i64 t0, .int .i64 t1, .int .i64 t2, .string t3, .int .i64 t4] 31)) = W → Below w.heap.size w W ∧ Bx Γ W w.heap.size (.cells #[.string nm, .bool wi, .slice pa pn pc, .slice ba bn bc] 116 (0, 0)) ∧ Bx Γ W (w.heap.size + 1) (.cells #[.int .i64 t0, .int .i64 t1, .int .i64 t2, .string t3, .int .i64 t4] 31 (0, 0))) := by
  rintro W rfl; refine ⟨(br.alloc (Nat.le_refl _) _).alloc (by simp) _, Bx.of_new H.out.good (Nat.le_refl _) ((Below.heap_alloc _ _ _ (by simp)).trans (al w _)), Bx.of_new H.out.good (by omega) ?_⟩; have := al (w.alloc (.cells #[.string nm, .bool wi, .slice pa pn pc, .slice ba bn bc] 116)) (.cells #[.int .i64 t0, .int .i64 t1, .int .i64 t2, .string t3, .int .i64 t4] 31); simpa using this
 cases inl
 case false =>
  go_wp2_with fail; generalize hW1 : World.alloc (World.alloc w _) _ = w1; obtain ⟨h1, h2, h3⟩ := HG1.out w1 hW1; have HI1 : Hid (In Γ w1 wb) := H.out.below h1; have HT1 : Hid (ai Γ w Γ w1) := ai.of_below h1; have HM1 := qd h2; have HX1 := qd h3; clear hW1 h1 h2 h3 HG1
  go_loopw [9, 10] (fun o i wr => ∃ (Γr : Gh) (k on : Nat) (oa : Option Addr) (oc : Nat), i = .int .i64 k ∧ k ≤ bn ∧ o = .slice oa on oc ∧ on ≤ 8193 ∧ Hid (Rw Γr .tok (.slice oa on oc) on) ∧ Hid (In Γr wr wb) ∧ Hid (ai Γ w Γr wr) ∧ Hid (Bx Γr wr w.heap.size (.cells #[.string nm, .bool wi, .slice pa pn pc, .slice ba bn bc] 116 (0, 0))) ∧ Hid (Bx Γr wr (w.heap.size + 1) (.cells #[.int .i64 t0, .int .i64 t1, .int .i64 t2, .string t3, .int .i64 t4] 31 (0, 0)))) (fun _ i _ => bn + 1 - (intOf i).toNat)
  case atStart => exact ⟨Γ, 0, 0, none, 0, rfl, by omega, rfl, by omega, Rw.nil _ _, HI1, HT1, HM1, HX1⟩
  case round =>
   obtain ⟨Γr, k, on, oa, oc, rfl, hk, rfl, hon, hR, hI, hT, hM, hX⟩ := hrel; obtain ⟨m0, m1, m2, m3⟩ := dz hM.out.1; have hsm := af hM.out.1
   by_cases hkb : k < bn ∧ on ≤ 8192
   · obtain ⟨hk1, hk2⟩ := hkb; obtain ⟨b, off, y, rfl, hb, hy, d0, d1, d2, d3, d4⟩ := (HB.out.le hT.out.le).tokAt hI.out.good hk1; obtain ⟨y0, y1, y2, y3, y4⟩ := y; simp only at d0 d1 d2 d3 d4; have HY := qd hy; clear hy; go_wp2_with fail; refine aj (z := 1000) (S := fun w' : World => w'.cell? ⟨w.heap.size, 2, none⟩ = some (.slice pa pn pc) ∧ w'.cell? ⟨w.heap.size, 3, none⟩ = some (.slice (some ⟨b, off, none⟩) bn bc) ∧ w'.cell? ⟨b, off + k * 5, none⟩ = some (.int .i64 y0) ∧ w'.cell? ⟨b, off + k * 5 + 1, none⟩ = some (.int .i64 y1) ∧ w'.cell? ⟨b, off + k * 5 + 2, none⟩ = some (.int .i64 y2) ∧ w'.cell? ⟨b, off + k * 5 + 3, none⟩ = some (.string y3) ∧ w'.cell? ⟨b, off + k * 5 + 4, none⟩ = some (.int .i64 y4)) (by kernel_rfl) ⟨m2, m3, d0, d1, d2, d3, d4⟩ (fun hHeld => ?_); refine wt 0 (.pointer (some ⟨w.heap.size, 2, none⟩)) ?_; simp only [pu]; refine wt 1 (.slice pa pn pc) ?_; simp only [pu]; refine wt 2 (.pointer (some ⟨w.heap.size, 3, none⟩)) ?_; simp only [pu]; refine wt 3 (.slice (some ⟨b, off, none⟩) bn bc) ?_; simp only [pu]; refine wt 4 (.int .i64 k) ?_; simp only [pu]; refine wt 5 (.pointer (some ⟨b, off + k * 5, none⟩)) ?_; simp only [pu]; refine wt 6 (.agg #[.int .i64 y0, .int .i64 y1, .int .i64 y2, .string y3, .int .i64 y4]) ?_; simp only [pu]; refine aO 7 fun K hK => ?_
     go_simp; refine (gn (Γ := Γr) (.slice pa pn pc) pn ⟨y0, y1, y2, y3, y4⟩ _ (hI.out.drew.good) (HP.out.le hT.out.le)).mono ?_; rintro e w4 ⟨⟨kk, rfl, hkk1, hkk2⟩, hb4⟩; have HB4 : Hid (Below wr.heap.size wr w4) := br.drew.trans hb4; have HI4 : Hid (In Γr w4 wb) := hI.out.below HB4.out; have HT4 : Hid (ai Γ w Γr w4) := hT.out.trans (ai.of_below HB4.out); have HM4 := qd (hM.out.turn (ai.of_below (Γ := Γr) HB4.out)); have HX4 := qd (hX.out.turn (ai.of_below (Γ := Γr) HB4.out)); have p0 := (HB4.out.cell (p := ⟨b, off + k * 5, none⟩) hb).trans d0; have p1 := (HB4.out.cell (p := ⟨b, off + k * 5 + 1, none⟩) hb).trans d1; have p2 := (HB4.out.cell (p := ⟨b, off + k * 5 + 2, none⟩) hb).trans d2; have p3 := (HB4.out.cell (p := ⟨b, off + k * 5 + 3, none⟩) hb).trans d3; have p4 := (HB4.out.cell (p := ⟨b, off + k * 5 + 4, none⟩) hb).trans d4; clear hb4 hHeld d0 d1 d2 d3 d4 m0 m1 m2 m3; obtain ⟨m0, m1, m2, m3⟩ := dz HM4.out.1; have hsm4 := af HM4.out.1; refine hK.out _ _ ⟨m2, m3, p0, p1, p2, p3, p4⟩ (fun hHeld => ?_); clear hK K
     try simp only [pu]
     refine wt 8 (.int .i64 kk) ?_; simp only [pu]; refine aK ?_; clear hHeld
     by_cases hneg : kk < 0
     · obtain rfl : kk = -1 := by omega
       go_wp2_with (at_builtin; go_must (refine aA (HI4.out.good.below (br.alloc (Nat.le_refl _) _)) aX rfl _ _ rfl (.slice oa on oc) on rfl hR.out ⟨w4.heap.size, 0, none⟩ 1 1 rfl (aC (f := ay.enc ⟨y0, y1, y2, y3, y4⟩) (al _ _) ⟨_, fun _ _ => rfl, HY.out⟩ (dx ⟨y0, y1, y2, y3, y4⟩)) (by omega) (by omega) ?c2))
       case c2 =>
        intro g6 c6 w6 Γ6 q1 q2 q3 _ _ _; have hq := (ai.of_below (Γ := Γr) ((Below.refl w4.heap.size w4).alloc (Nat.le_refl _) (.cells #[.int .i64 y0, .int .i64 y1, .int .i64 y2, .string y3, .int .i64 y4] 31))).trans q2; have HI6 : Hid (In Γ6 w6 wb) := HI4.out.turn q1 hq; have HT6 : Hid (ai Γ w Γ6 w6) := HT4.out.trans hq; have HM6 := qd (HM4.out.turn hq); have HX6 := qd (HX4.out.turn hq); have HR6 := qd q3; clear q1 q2 q3 hq; go_wp2_with fail; go_roundw
        case rel => exact ⟨Γ6, k + 1, on + 1, _, c6, by go_num, by omega, rfl, by omega, HR6, HI6, HT6, HM6, HX6⟩
        case measure => simp [intOf]; omega
     · obtain ⟨q, rfl⟩ : ∃ q : Nat, kk = q := ⟨kk.toNat, by omega⟩; have hqa : q < an := by omega
       have hneg' : decide ((q : Int) < 0) = false := by simp
       clear p0 p1 p2 p3 p4 m0 m1 m2 m3; go_wp2_with fail
       go_loopw [9, 12] (fun o j ws => ∃ (Γs : Gh) (j1 on1 : Nat) (oa1 : Option Addr) (oc1 : Nat), j = .int .i64 j1 ∧ j1 ≤ on1 ∧ o = .slice oa1 on1 oc1 ∧ on1 ≤ 8193 ∧ Hid (Rw Γs .tok (.slice oa1 on1 oc1) on1) ∧ Hid (In Γs ws wb) ∧ Hid (ai Γ w Γs ws) ∧ Hid (Bx Γs ws w.heap.size (.cells #[.string nm, .bool wi, .slice pa pn pc, .slice (some ⟨b, off, none⟩) bn bc] 116 (0, 0))) ∧ Hid (Bx Γs ws (w.heap.size + 1) (.cells #[.int .i64 t0, .int .i64 t1, .int .i64 t2, .string t3, .int .i64 t4] 31 (0, 0)))) (fun _ j _ => 8194 - (intOf j).toNat)
       case atStart => exact ⟨Γr, 0, on, oa, oc, rfl, by omega, rfl, hon, hR, HI4, HT4, HM4, HX4⟩
       case round =>
        obtain ⟨Γs, j1, on1, oa1, oc1, rfl, hj1, rfl, hon1, hR1, hI1, hT1, hM1, hX1⟩ := hrel; obtain ⟨ab, ao, ea, en, ec, hae, hab, hER, hen, hec⟩ := (HA.out.le hT1.out.le).rowAt hI1.out.good hqa; subst hae; have HER := qd hER; clear hER
        by_cases hj2 : j1 < en ∧ on1 ≤ 8192
        · obtain ⟨hj3, hj4⟩ := hj2; obtain ⟨eb, eo, y, rfl, heb, hy, d0, d1, d2, d3, d4⟩ := HER.out.view.tokAt hI1.out.good hj3; obtain ⟨v0, v1, v2, v3, v4⟩ := y; simp only at d0 d1 d2 d3 d4; have HZ := qd hy; clear hy; have hj5 : (j1 : Int) < (en : Int) := by omega
          have hj6 : (on1 : Int) ≤ 8192 := by omega
          go_wp2_with (at_builtin; go_must (refine aA (hI1.out.good.below (br.alloc (Nat.le_refl _) _)) aX rfl _ _ rfl (.slice oa1 on1 oc1) on1 rfl hR1.out ⟨_, 0, none⟩ 1 1 rfl (aC (f := ay.enc ⟨v0, v1, v2, v3, v4⟩) (al _ _) ⟨_, fun _ _ => rfl, HZ.out⟩ (dx ⟨v0, v1, v2, v3, v4⟩)) (by omega) (by omega) ?c3))
          case c3 =>
           intro g6 c6 w6 Γ6 q1 q2 q3 _ _ _; have hq := (ai.of_below (Γ := Γs) (br.alloc (Nat.le_refl _) (.cells #[.int .i64 v0, .int .i64 v1, .int .i64 v2, .string v3, .int .i64 v4] 31))).trans q2; have HI6 : Hid (In Γ6 w6 wb) := hI1.out.turn q1 hq; have HT6 : Hid (ai Γ w Γ6 w6) := hT1.out.trans hq; have HM6 := qd (hM1.out.turn hq); have HX6 := qd (hX1.out.turn hq); have HR6 := qd q3; clear q1 q2 q3 hq; go_wp2_with fail; go_roundw
           case rel => exact ⟨Γ6, j1 + 1, on1 + 1, _, c6, by go_num, by omega, rfl, by omega, HR6, HI6, HT6, HM6, HX6⟩
           case measure => simp [intOf]; omega
        · by_cases hj3 : j1 < en
          · have hj4 : decide ((on1 : Int) ≤ 8192) = false := by simp; omega
            have hj5 : decide ((j1 : Int) < (en : Int)) = true := by simp; omega
            go_wp2_with fail; go_roundw
            case rel => exact ⟨Γs, k + 1, on1, _, oc1, by go_num, by omega, rfl, by omega, hR1, hI1, hT1, hM1, hX1⟩
            case measure => simp [intOf]; omega
          · have hj5 : decide ((j1 : Int) < (en : Int)) = false := by simp; omega
            go_wp2_with fail; go_roundw
            case rel => exact ⟨Γs, k + 1, on1, _, oc1, by go_num, by omega, rfl, by omega, hR1, hI1, hT1, hM1, hX1⟩
            case measure => simp [intOf]; omega
   · obtain ⟨inl2, ma, mn, mc, ca, cn, cc, u, oa2, on2, oc2, e, at1, hf⟩ := hI.out.fields; have c0 := hf.c0; clear hf; have hsw := hI.out.lt; have hkc : (k < bn ∧ decide ((on : Int) ≤ 8192) = false ∧ decide ((k : Int) < (bn : Int)) = true ∧ ¬ on ≤ 8192) ∨ decide ((k : Int) < (bn : Int)) = false ∧ ¬ k < bn := by
      by_cases hk1 : k < bn
      · exact .inl ⟨hk1, by simp; omega, by simp; omega, by omega⟩
      · exact .inr ⟨by simp; omega, hk1⟩
     cases inl2
     case false =>
      rcases hkc with ⟨hk1, hk2, hk3, hk4⟩ | ⟨hk3, hk4⟩
      all_goals
       clear hkb; go_wp2_with fail
       go_loopw [13] (fun i ws => ∃ k3 : Nat, i = .int .i64 k3 ∧ k3 ≤ on ∧ Hid (In Γr ws wb) ∧ Hid (ai Γ w Γr ws) ∧ Hid (Bx Γr ws (w.heap.size + 1) (.cells #[.int .i64 t0, .int .i64 t1, .int .i64 t2, .string t3, .int .i64 t4] 31 (0, 0)))) (fun i _ => on + 1 - (intOf i).toNat)
       case atStart => exact ⟨0, rfl, by omega, hI, hT, hX⟩
       case round =>
        obtain ⟨k3, rfl, hk3, hI3, hT3, hX3⟩ := hrel; obtain ⟨x0, x1, x2, x3, x4⟩ := cF hX3.out.1; have hsx := af hX3.out.1
        by_cases hlt3 : k3 < on
        · obtain ⟨g3, hg3⟩ := hR.out.pos (by omega); have HR3 := hR.out; simp only [hg3] at HR3 ⊢; obtain ⟨b3, o3, y, hbe, hb3, hy, d0, d1, d2, d3, d4⟩ := HR3.view.tokAt hI3.out.good hlt3; obtain ⟨rfl, rfl⟩ : g3 = b3 ∧ 0 = o3 := by simpa using hbe
          have hgn : Γr g3 ≠ none := HR3.some; have z1 := hI3.out.good.free hgn (k3 * 5 + 1); have z2 := hI3.out.good.free hgn (k3 * 5 + 2); have hne : g3 ≠ w.heap.size + 1 := fun e => hgn (by rw [e]; exact hX3.out.2)
          have hne' : w.heap.size + 1 ≠ g3 := fun e => hne e.symm
          obtain ⟨s1, s2⟩ := bP hI3.out.good HR3 hlt3 (.inl rfl) HK.out.2.2.1; obtain ⟨s3, s4⟩ := bP s1 HR3 hlt3 (.inr rfl) HK.out.2.2.2.1; have HI5 := qd ((hI3.out.turn s1 s2).turn s3 s4); have HT5 := qd (hT3.out.trans (s2.trans s4)); have HX5 := qd (hX3.out.turn (s2.trans s4)); clear hbe hy s1 s2 s3 s4 hgn; have HR4 := qd HR3; clear HR3; simp only [Nat.zero_add] at d0 d1 d2 d3 d4; go_wp2_with fail; go_roundw
          case rel => exact ⟨k3 + 1, by go_num, by omega, HI5, HT5, HX5⟩
          case measure => simp [intOf]; omega
        · obtain rfl : k3 = on := by omega
          go_wp2_with fail; rw [HPP.out]; exact ⟨Γr, _, _, rfl, hI3.out, hT3.out, hR.out, by omega⟩
     case true =>
      rcases hkc with ⟨hk1, hk2, hk3, hk4⟩ | ⟨hk3, hk4⟩
      · clear hkb; go_wp2_with (at_builtin; go_must (refine aA (hI.out.good.below (br.alloc (Nat.le_refl _) _)) aX rfl _ _ rfl (.slice oa on oc) on rfl hR.out ⟨wr.heap.size, 0, none⟩ 1 1 rfl (aC (f := ay.enc (eS ⟨#[125]⟩)) (al _ _) ⟨_, fun _ _ => rfl, fP _ (by decide)⟩ (dx (eS ⟨#[125]⟩))) (by omega) (by omega) ?c2))
        case c2 =>
         intro g6 c6 w6 Γ6 q1 q2 q3 _ _ _; have hq := (ai.of_below (Γ := Γr) (br.alloc (Nat.le_refl _) (.cells #[.int .i64 4, .int .i64 0, .int .i64 0, .string ⟨#[125]⟩, .int .i64 0] 31))).trans q2; have HI6 : Hid (In Γ6 w6 wb) := hI.out.turn q1 hq; have HT6 : Hid (ai Γ w Γ6 w6) := hT.out.trans hq; have HX6 := qd (hX.out.turn hq); have HR6 := qd q3; clear q1 q2 q3 hq m0 m1 m2 m3 c0; go_wp2_with fail
         go_loopw [13] (fun i ws => ∃ k3 : Nat, i = .int .i64 k3 ∧ k3 ≤ (on + 1) ∧ Hid (In Γ6 ws wb) ∧ Hid (ai Γ w Γ6 ws) ∧ Hid (Bx Γ6 ws (w.heap.size + 1) (.cells #[.int .i64 t0, .int .i64 t1, .int .i64 t2, .string t3, .int .i64 t4] 31 (0, 0)))) (fun i _ => (on + 1) + 1 - (intOf i).toNat)
         case atStart => exact ⟨0, rfl, by omega, HI6, HT6, HX6⟩
         case round =>
          obtain ⟨k3, rfl, hk3, hI3, hT3, hX3⟩ := hrel; obtain ⟨x0, x1, x2, x3, x4⟩ := cF hX3.out.1; have hsx := af hX3.out.1
          by_cases hlt3 : k3 < (on + 1)
          · obtain ⟨g3, hg3⟩ := HR6.out.pos (by omega); have HR3 := HR6.out; simp only [hg3] at HR3 ⊢; obtain ⟨b3, o3, y, hbe, hb3, hy, d0, d1, d2, d3, d4⟩ := HR3.view.tokAt hI3.out.good hlt3; obtain ⟨rfl, rfl⟩ : g3 = b3 ∧ 0 = o3 := by simpa using hbe
            have hgn : Γ6 g3 ≠ none := HR3.some; have z1 := hI3.out.good.free hgn (k3 * 5 + 1); have z2 := hI3.out.good.free hgn (k3 * 5 + 2); have hne : g3 ≠ w.heap.size + 1 := fun e => hgn (by rw [e]; exact hX3.out.2)
            have hne' : w.heap.size + 1 ≠ g3 := fun e => hne e.symm
            obtain ⟨s1, s2⟩ := bP hI3.out.good HR3 hlt3 (.inl rfl) HK.out.2.2.1; obtain ⟨s3, s4⟩ := bP s1 HR3 hlt3 (.inr rfl) HK.out.2.2.2.1; have HI5 := qd ((hI3.out.turn s1 s2).turn s3 s4); have HT5 := qd (hT3.out.trans (s2.trans s4)); have HX5 := qd (hX3.out.turn (s2.trans s4)); clear hbe hy s1 s2 s3 s4 hgn; have HR4 := qd HR3; clear HR3; simp only [Nat.zero_add] at d0 d1 d2 d3 d4; go_wp2_with fail; go_roundw
            case rel => exact ⟨k3 + 1, by go_num, by omega, HI5, HT5, HX5⟩
            case measure => simp [intOf]; omega
          · obtain rfl : k3 = (on + 1) := by omega
            go_wp2_with fail; rw [HPP.out]; exact ⟨Γ6, _, _, rfl, hI3.out, hT3.out, HR6.out, by omega⟩
      · clear hkb; go_wp2_with (at_builtin; go_must (refine aA (hI.out.good.below (br.alloc (Nat.le_refl _) _)) aX rfl _ _ rfl (.slice oa on oc) on rfl hR.out ⟨wr.heap.size, 0, none⟩ 1 1 rfl (aC (f := ay.enc (eS ⟨#[125]⟩)) (al _ _) ⟨_, fun _ _ => rfl, fP _ (by decide)⟩ (dx (eS ⟨#[125]⟩))) (by omega) (by omega) ?c2))
        case c2 =>
         intro g6 c6 w6 Γ6 q1 q2 q3 _ _ _; have hq := (ai.of_below (Γ := Γr) (br.alloc (Nat.le_refl _) (.cells #[.int .i64 4, .int .i64 0, .int .i64 0, .string ⟨#[125]⟩, .int .i64 0] 31))).trans q2; have HI6 : Hid (In Γ6 w6 wb) := hI.out.turn q1 hq; have HT6 : Hid (ai Γ w Γ6 w6) := hT.out.trans hq; have HX6 := qd (hX.out.turn hq); have HR6 := qd q3; clear q1 q2 q3 hq m0 m1 m2 m3 c0; go_wp2_with fail
         go_loopw [13] (fun i ws => ∃ k3 : Nat, i = .int .i64 k3 ∧ k3 ≤ (on + 1) ∧ Hid (In Γ6 ws wb) ∧ Hid (ai Γ w Γ6 ws) ∧ Hid (Bx Γ6 ws (w.heap.size + 1) (.cells #[.int .i64 t0, .int .i64 t1, .int .i64 t2, .string t3, .int .i64 t4] 31 (0, 0)))) (fun i _ => (on + 1) + 1 - (intOf i).toNat)
         case atStart => exact ⟨0, rfl, by omega, HI6, HT6, HX6⟩
         case round =>
          obtain ⟨k3, rfl, hk3, hI3, hT3, hX3⟩ := hrel; obtain ⟨x0, x1, x2, x3, x4⟩ := cF hX3.out.1; have hsx := af hX3.out.1
          by_cases hlt3 : k3 < (on + 1)
          · obtain ⟨g3, hg3⟩ := HR6.out.pos (by omega); have HR3 := HR6.out; simp only [hg3] at HR3 ⊢; obtain ⟨b3, o3, y, hbe, hb3, hy, d0, d1, d2, d3, d4⟩ := HR3.view.tokAt hI3.out.good hlt3; obtain ⟨rfl, rfl⟩ : g3 = b3 ∧ 0 = o3 := by simpa using hbe
            have hgn : Γ6 g3 ≠ none := HR3.some; have z1 := hI3.out.good.free hgn (k3 * 5 + 1); have z2 := hI3.out.good.free hgn (k3 * 5 + 2); have hne : g3 ≠ w.heap.size + 1 := fun e => hgn (by rw [e]; exact hX3.out.2)
            have hne' : w.heap.size + 1 ≠ g3 := fun e => hne e.symm
            obtain ⟨s1, s2⟩ := bP hI3.out.good HR3 hlt3 (.inl rfl) HK.out.2.2.1; obtain ⟨s3, s4⟩ := bP s1 HR3 hlt3 (.inr rfl) HK.out.2.2.2.1; have HI5 := qd ((hI3.out.turn s1 s2).turn s3 s4); have HT5 := qd (hT3.out.trans (s2.trans s4)); have HX5 := qd (hX3.out.turn (s2.trans s4)); clear hbe hy s1 s2 s3 s4 hgn; have HR4 := qd HR3; clear HR3; simp only [Nat.zero_add] at d0 d1 d2 d3 d4; go_wp2_with fail; go_roundw
            case rel => exact ⟨k3 + 1, by go_num, by omega, HI5, HT5, HX5⟩
            case measure => simp [intOf]; omega
          · obtain rfl : k3 = (on + 1) := by omega
            go_wp2_with fail; rw [HPP.out]; exact ⟨Γ6, _, _, rfl, hI3.out, hT3.out, HR6.out, by omega⟩
 case true =>
  go_wp2_with (at_builtin; go_must (refine aA (H.out.good.below (((br.alloc (Nat.le_refl _) _).alloc (by simp) _).alloc (by simp; omega) _)) aX rfl _ _ rfl (.slice none 0 0) 0 rfl (Rw.nil _ _) ⟨w.heap.size + 2, 0, none⟩ 1 1 rfl (aC (f := ay.enc (eS ⟨#[123]⟩)) (cs := #[.int .i64 4, .int .i64 0, .int .i64 0, .string ⟨#[123]⟩, .int .i64 0]) (E := 31) (fr := (0, 0)) ?c1 ⟨_, fun _ _ => rfl, fP _ (by decide)⟩ (dx (eS ⟨#[123]⟩))) (by omega) (by omega) ?c2))
  case c1 =>
   have := al ((w.alloc (.cells #[.string nm, .bool wi, .slice pa pn pc, .slice ba bn bc] 116)).alloc (.cells #[.int .i64 t0, .int .i64 t1, .int .i64 t2, .string t3, .int .i64 t4] 31)) (.cells #[.int .i64 4, .int .i64 0, .int .i64 0, .string ⟨#[123]⟩, .int .i64 0] 31); simpa using this
  case c2 =>
   intro g5 c5 w5 Γ5 q1 q2 q3 _ _ _; obtain ⟨h1, h2, h3⟩ := HG1.out _ rfl; have hq := (ai.of_below (Γ := Γ) ((Below.refl ((w.alloc (.cells #[.string nm, .bool wi, .slice pa pn pc, .slice ba bn bc] 116)).alloc (.cells #[.int .i64 t0, .int .i64 t1, .int .i64 t2, .string t3, .int .i64 t4] 31)).heap.size _).alloc (Nat.le_refl _) (.cells #[.int .i64 4, .int .i64 0, .int .i64 0, .string ⟨#[123]⟩, .int .i64 0] 31))).trans q2; have HT1 : Hid (ai Γ w Γ5 w5) := (ai.of_below h1).trans hq; have HI1 : Hid (In Γ5 w5 wb) := H.out.turn q1 HT1.out; have HM1 : Hid (Bx Γ5 w5 w.heap.size (.cells #[.string nm, .bool wi, .slice pa pn pc, .slice ba bn bc] 116 (0, 0))) := h2.turn hq; have HX1 : Hid (Bx Γ5 w5 (w.heap.size + 1) (.cells #[.int .i64 t0, .int .i64 t1, .int .i64 t2, .string t3, .int .i64 t4] 31 (0, 0))) := h3.turn hq; have HR1 := qd q3; clear q1 q2 q3 h1 h2 h3 hq HG1; go_wp2_with fail
   go_loopw [9, 10] (fun o i wr => ∃ (Γr : Gh) (k on : Nat) (oa : Option Addr) (oc : Nat), i = .int .i64 k ∧ k ≤ bn ∧ o = .slice oa on oc ∧ on ≤ 8193 ∧ Hid (Rw Γr .tok (.slice oa on oc) on) ∧ Hid (In Γr wr wb) ∧ Hid (ai Γ w Γr wr) ∧ Hid (Bx Γr wr w.heap.size (.cells #[.string nm, .bool wi, .slice pa pn pc, .slice ba bn bc] 116 (0, 0))) ∧ Hid (Bx Γr wr (w.heap.size + 1) (.cells #[.int .i64 t0, .int .i64 t1, .int .i64 t2, .string t3, .int .i64 t4] 31 (0, 0)))) (fun _ i _ => bn + 1 - (intOf i).toNat)
   case atStart => exact ⟨Γ5, 0, _, _, c5, rfl, by omega, rfl, by omega, HR1, HI1, HT1, HM1, HX1⟩
   case round =>
    obtain ⟨Γr, k, on, oa, oc, rfl, hk, rfl, hon, hR, hI, hT, hM, hX⟩ := hrel; obtain ⟨m0, m1, m2, m3⟩ := dz hM.out.1; have hsm := af hM.out.1
    by_cases hkb : k < bn ∧ on ≤ 8192
    · obtain ⟨hk1, hk2⟩ := hkb; obtain ⟨b, off, y, rfl, hb, hy, d0, d1, d2, d3, d4⟩ := (HB.out.le hT.out.le).tokAt hI.out.good hk1; obtain ⟨y0, y1, y2, y3, y4⟩ := y; simp only at d0 d1 d2 d3 d4; have HY := qd hy; clear hy; go_wp2_with fail; refine aj (z := 1000) (S := fun w' : World => w'.cell? ⟨w.heap.size, 2, none⟩ = some (.slice pa pn pc) ∧ w'.cell? ⟨w.heap.size, 3, none⟩ = some (.slice (some ⟨b, off, none⟩) bn bc) ∧ w'.cell? ⟨b, off + k * 5, none⟩ = some (.int .i64 y0) ∧ w'.cell? ⟨b, off + k * 5 + 1, none⟩ = some (.int .i64 y1) ∧ w'.cell? ⟨b, off + k * 5 + 2, none⟩ = some (.int .i64 y2) ∧ w'.cell? ⟨b, off + k * 5 + 3, none⟩ = some (.string y3) ∧ w'.cell? ⟨b, off + k * 5 + 4, none⟩ = some (.int .i64 y4)) (by kernel_rfl) ⟨m2, m3, d0, d1, d2, d3, d4⟩ (fun hHeld => ?_); refine wt 0 (.pointer (some ⟨w.heap.size, 2, none⟩)) ?_; simp only [pu]; refine wt 1 (.slice pa pn pc) ?_; simp only [pu]; refine wt 2 (.pointer (some ⟨w.heap.size, 3, none⟩)) ?_; simp only [pu]; refine wt 3 (.slice (some ⟨b, off, none⟩) bn bc) ?_; simp only [pu]; refine wt 4 (.int .i64 k) ?_; simp only [pu]; refine wt 5 (.pointer (some ⟨b, off + k * 5, none⟩)) ?_; simp only [pu]; refine wt 6 (.agg #[.int .i64 y0, .int .i64 y1, .int .i64 y2, .string y3, .int .i64 y4]) ?_; simp only [pu]; refine aO 7 fun K hK => ?_
      go_simp; refine (gn (Γ := Γr) (.slice pa pn pc) pn ⟨y0, y1, y2, y3, y4⟩ _ (hI.out.drew.good) (HP.out.le hT.out.le)).mono ?_; rintro e w4 ⟨⟨kk, rfl, hkk1, hkk2⟩, hb4⟩; have HB4 : Hid (Below wr.heap.size wr w4) := br.drew.trans hb4; have HI4 : Hid (In Γr w4 wb) := hI.out.below HB4.out; have HT4 : Hid (ai Γ w Γr w4) := hT.out.trans (ai.of_below HB4.out); have HM4 := qd (hM.out.turn (ai.of_below (Γ := Γr) HB4.out)); have HX4 := qd (hX.out.turn (ai.of_below (Γ := Γr) HB4.out)); have p0 := (HB4.out.cell (p := ⟨b, off + k * 5, none⟩) hb).trans d0; have p1 := (HB4.out.cell (p := ⟨b, off + k * 5 + 1, none⟩) hb).trans d1; have p2 := (HB4.out.cell (p := ⟨b, off + k * 5 + 2, none⟩) hb).trans d2; have p3 := (HB4.out.cell (p := ⟨b, off + k * 5 + 3, none⟩) hb).trans d3; have p4 := (HB4.out.cell (p := ⟨b, off + k * 5 + 4, none⟩) hb).trans d4; clear hb4 hHeld d0 d1 d2 d3 d4 m0 m1 m2 m3; obtain ⟨m0, m1, m2, m3⟩ := dz HM4.out.1; have hsm4 := af HM4.out.1; refine hK.out _ _ ⟨m2, m3, p0, p1, p2, p3, p4⟩ (fun hHeld => ?_); clear hK K
      try simp only [pu]
      refine wt 8 (.int .i64 kk) ?_; simp only [pu]; refine aK ?_; clear hHeld
      by_cases hneg : kk < 0
      · obtain rfl : kk = -1 := by omega
        go_wp2_with (at_builtin; go_must (refine aA (HI4.out.good.below (br.alloc (Nat.le_refl _) _)) aX rfl _ _ rfl (.slice oa on oc) on rfl hR.out ⟨w4.heap.size, 0, none⟩ 1 1 rfl (aC (f := ay.enc ⟨y0, y1, y2, y3, y4⟩) (al _ _) ⟨_, fun _ _ => rfl, HY.out⟩ (dx ⟨y0, y1, y2, y3, y4⟩)) (by omega) (by omega) ?c2))
        case c2 =>
         intro g6 c6 w6 Γ6 q1 q2 q3 _ _ _; have hq := (ai.of_below (Γ := Γr) ((Below.refl w4.heap.size w4).alloc (Nat.le_refl _) (.cells #[.int .i64 y0, .int .i64 y1, .int .i64 y2, .string y3, .int .i64 y4] 31))).trans q2; have HI6 : Hid (In Γ6 w6 wb) := HI4.out.turn q1 hq; have HT6 : Hid (ai Γ w Γ6 w6) := HT4.out.trans hq; have HM6 := qd (HM4.out.turn hq); have HX6 := qd (HX4.out.turn hq); have HR6 := qd q3; clear q1 q2 q3 hq; go_wp2_with fail; go_roundw
         case rel => exact ⟨Γ6, k + 1, on + 1, _, c6, by go_num, by omega, rfl, by omega, HR6, HI6, HT6, HM6, HX6⟩
         case measure => simp [intOf]; omega
      · obtain ⟨q, rfl⟩ : ∃ q : Nat, kk = q := ⟨kk.toNat, by omega⟩; have hqa : q < an := by omega
        have hneg' : decide ((q : Int) < 0) = false := by simp
        clear p0 p1 p2 p3 p4 m0 m1 m2 m3; go_wp2_with fail
        go_loopw [9, 12] (fun o j ws => ∃ (Γs : Gh) (j1 on1 : Nat) (oa1 : Option Addr) (oc1 : Nat), j = .int .i64 j1 ∧ j1 ≤ on1 ∧ o = .slice oa1 on1 oc1 ∧ on1 ≤ 8193 ∧ Hid (Rw Γs .tok (.slice oa1 on1 oc1) on1) ∧ Hid (In Γs ws wb) ∧ Hid (ai Γ w Γs ws) ∧ Hid (Bx Γs ws w.heap.size (.cells #[.string nm, .bool wi, .slice pa pn pc, .slice (some ⟨b, off, none⟩) bn bc] 116 (0, 0))) ∧ Hid (Bx Γs ws (w.heap.size + 1) (.cells #[.int .i64 t0, .int .i64 t1, .int .i64 t2, .string t3, .int .i64 t4] 31 (0, 0)))) (fun _ j _ => 8194 - (intOf j).toNat)
        case atStart => exact ⟨Γr, 0, on, oa, oc, rfl, by omega, rfl, hon, hR, HI4, HT4, HM4, HX4⟩
        case round =>
         obtain ⟨Γs, j1, on1, oa1, oc1, rfl, hj1, rfl, hon1, hR1, hI1, hT1, hM1, hX1⟩ := hrel; obtain ⟨ab, ao, ea, en, ec, hae, hab, hER, hen, hec⟩ := (HA.out.le hT1.out.le).rowAt hI1.out.good hqa; subst hae; have HER := qd hER; clear hER
         by_cases hj2 : j1 < en ∧ on1 ≤ 8192
         · obtain ⟨hj3, hj4⟩ := hj2; obtain ⟨eb, eo, y, rfl, heb, hy, d0, d1, d2, d3, d4⟩ := HER.out.view.tokAt hI1.out.good hj3; obtain ⟨v0, v1, v2, v3, v4⟩ := y; simp only at d0 d1 d2 d3 d4; have HZ := qd hy; clear hy; have hj5 : (j1 : Int) < (en : Int) := by omega
           have hj6 : (on1 : Int) ≤ 8192 := by omega
           go_wp2_with (at_builtin; go_must (refine aA (hI1.out.good.below (br.alloc (Nat.le_refl _) _)) aX rfl _ _ rfl (.slice oa1 on1 oc1) on1 rfl hR1.out ⟨_, 0, none⟩ 1 1 rfl (aC (f := ay.enc ⟨v0, v1, v2, v3, v4⟩) (al _ _) ⟨_, fun _ _ => rfl, HZ.out⟩ (dx ⟨v0, v1, v2, v3, v4⟩)) (by omega) (by omega) ?c3))
           case c3 =>
            intro g6 c6 w6 Γ6 q1 q2 q3 _ _ _; have hq := (ai.of_below (Γ := Γs) (br.alloc (Nat.le_refl _) (.cells #[.int .i64 v0, .int .i64 v1, .int .i64 v2, .string v3, .int .i64 v4] 31))).trans q2; have HI6 : Hid (In Γ6 w6 wb) := hI1.out.turn q1 hq; have HT6 : Hid (ai Γ w Γ6 w6) := hT1.out.trans hq; have HM6 := qd (hM1.out.turn hq); have HX6 := qd (hX1.out.turn hq); have HR6 := qd q3; clear q1 q2 q3 hq; go_wp2_with fail; go_roundw
            case rel => exact ⟨Γ6, j1 + 1, on1 + 1, _, c6, by go_num, by omega, rfl, by omega, HR6, HI6, HT6, HM6, HX6⟩
            case measure => simp [intOf]; omega
         · by_cases hj3 : j1 < en
           · have hj4 : decide ((on1 : Int) ≤ 8192) = false := by simp; omega
             have hj5 : decide ((j1 : Int) < (en : Int)) = true := by simp; omega
             go_wp2_with fail; go_roundw
             case rel => exact ⟨Γs, k + 1, on1, _, oc1, by go_num, by omega, rfl, by omega, hR1, hI1, hT1, hM1, hX1⟩
             case measure => simp [intOf]; omega
           · have hj5 : decide ((j1 : Int) < (en : Int)) = false := by simp; omega
             go_wp2_with fail; go_roundw
             case rel => exact ⟨Γs, k + 1, on1, _, oc1, by go_num, by omega, rfl, by omega, hR1, hI1, hT1, hM1, hX1⟩
             case measure => simp [intOf]; omega
    · obtain ⟨inl2, ma, mn, mc, ca, cn, cc, u, oa2, on2, oc2, e, at1, hf⟩ := hI.out.fields; have c0 := hf.c0; clear hf; have hsw := hI.out.lt; have hkc : (k < bn ∧ decide ((on : Int) ≤ 8192) = false ∧ decide ((k : Int) < (bn : Int)) = true ∧ ¬ on ≤ 8192) ∨ decide ((k : Int) < (bn : Int)) = false ∧ ¬ k < bn := by
       by_cases hk1 : k < bn
       · exact .inl ⟨hk1, by simp; omega, by simp; omega, by omega⟩
       · exact .inr ⟨by simp; omega, hk1⟩
      cases inl2
      case false =>
       rcases hkc with ⟨hk1, hk2, hk3, hk4⟩ | ⟨hk3, hk4⟩
       all_goals
        clear hkb; go_wp2_with fail
        go_loopw [13] (fun i ws => ∃ k3 : Nat, i = .int .i64 k3 ∧ k3 ≤ on ∧ Hid (In Γr ws wb) ∧ Hid (ai Γ w Γr ws) ∧ Hid (Bx Γr ws (w.heap.size + 1) (.cells #[.int .i64 t0, .int .i64 t1, .int .i64 t2, .string t3, .int .i64 t4] 31 (0, 0)))) (fun i _ => on + 1 - (intOf i).toNat)
        case atStart => exact ⟨0, rfl, by omega, hI, hT, hX⟩
        case round =>
         obtain ⟨k3, rfl, hk3, hI3, hT3, hX3⟩ := hrel; obtain ⟨x0, x1, x2, x3, x4⟩ := cF hX3.out.1; have hsx := af hX3.out.1
         by_cases hlt3 : k3 < on
         · obtain ⟨g3, hg3⟩ := hR.out.pos (by omega); have HR3 := hR.out; simp only [hg3] at HR3 ⊢; obtain ⟨b3, o3, y, hbe, hb3, hy, d0, d1, d2, d3, d4⟩ := HR3.view.tokAt hI3.out.good hlt3; obtain ⟨rfl, rfl⟩ : g3 = b3 ∧ 0 = o3 := by simpa using hbe
           have hgn : Γr g3 ≠ none := HR3.some; have z1 := hI3.out.good.free hgn (k3 * 5 + 1); have z2 := hI3.out.good.free hgn (k3 * 5 + 2); have hne : g3 ≠ w.heap.size + 1 := fun e => hgn (by rw [e]; exact hX3.out.2)
           have hne' : w.heap.size + 1 ≠ g3 := fun e => hne e.symm
           obtain ⟨s1, s2⟩ := bP hI3.out.good HR3 hlt3 (.inl rfl) HK.out.2.2.1; obtain ⟨s3, s4⟩ := bP s1 HR3 hlt3 (.inr rfl) HK.out.2.2.2.1; have HI5 := qd ((hI3.out.turn s1 s2).turn s3 s4); have HT5 := qd (hT3.out.trans (s2.trans s4)); have HX5 := qd (hX3.out.turn (s2.trans s4)); clear hbe hy s1 s2 s3 s4 hgn; have HR4 := qd HR3; clear HR3; simp only [Nat.zero_add] at d0 d1 d2 d3 d4; go_wp2_with fail; go_roundw
           case rel => exact ⟨k3 + 1, by go_num, by omega, HI5, HT5, HX5⟩
           case measure => simp [intOf]; omega
         · obtain rfl : k3 = on := by omega
           go_wp2_with fail; rw [HPP.out]; exact ⟨Γr, _, _, rfl, hI3.out, hT3.out, hR.out, by omega⟩
      case true =>
       rcases hkc with ⟨hk1, hk2, hk3, hk4⟩ | ⟨hk3, hk4⟩
       · clear hkb; go_wp2_with (at_builtin; go_must (refine aA (hI.out.good.below (br.alloc (Nat.le_refl _) _)) aX rfl _ _ rfl (.slice oa on oc) on rfl hR.out ⟨wr.heap.size, 0, none⟩ 1 1 rfl (aC (f := ay.enc (eS ⟨#[125]⟩)) (al _ _) ⟨_, fun _ _ => rfl, fP _ (by decide)⟩ (dx (eS ⟨#[125]⟩))) (by omega) (by omega) ?c2))
         case c2 =>
          intro g6 c6 w6 Γ6 q1 q2 q3 _ _ _; have hq := (ai.of_below (Γ := Γr) (br.alloc (Nat.le_refl _) (.cells #[.int .i64 4, .int .i64 0, .int .i64 0, .string ⟨#[125]⟩, .int .i64 0] 31))).trans q2; have HI6 : Hid (In Γ6 w6 wb) := hI.out.turn q1 hq; have HT6 : Hid (ai Γ w Γ6 w6) := hT.out.trans hq; have HX6 := qd (hX.out.turn hq); have HR6 := qd q3; clear q1 q2 q3 hq m0 m1 m2 m3 c0; go_wp2_with fail
          go_loopw [13] (fun i ws => ∃ k3 : Nat, i = .int .i64 k3 ∧ k3 ≤ (on + 1) ∧ Hid (In Γ6 ws wb) ∧ Hid (ai Γ w Γ6 ws) ∧ Hid (Bx Γ6 ws (w.heap.size + 1) (.cells #[.int .i64 t0, .int .i64 t1, .int .i64 t2, .string t3, .int .i64 t4] 31 (0, 0)))) (fun i _ => (on + 1) + 1 - (intOf i).toNat)
          case atStart => exact ⟨0, rfl, by omega, HI6, HT6, HX6⟩
          case round =>
           obtain ⟨k3, rfl, hk3, hI3, hT3, hX3⟩ := hrel; obtain ⟨x0, x1, x2, x3, x4⟩ := cF hX3.out.1; have hsx := af hX3.out.1
           by_cases hlt3 : k3 < (on + 1)
           · obtain ⟨g3, hg3⟩ := HR6.out.pos (by omega); have HR3 := HR6.out; simp only [hg3] at HR3 ⊢; obtain ⟨b3, o3, y, hbe, hb3, hy, d0, d1, d2, d3, d4⟩ := HR3.view.tokAt hI3.out.good hlt3; obtain ⟨rfl, rfl⟩ : g3 = b3 ∧ 0 = o3 := by simpa using hbe
             have hgn : Γ6 g3 ≠ none := HR3.some; have z1 := hI3.out.good.free hgn (k3 * 5 + 1); have z2 := hI3.out.good.free hgn (k3 * 5 + 2); have hne : g3 ≠ w.heap.size + 1 := fun e => hgn (by rw [e]; exact hX3.out.2)
             have hne' : w.heap.size + 1 ≠ g3 := fun e => hne e.symm
             obtain ⟨s1, s2⟩ := bP hI3.out.good HR3 hlt3 (.inl rfl) HK.out.2.2.1; obtain ⟨s3, s4⟩ := bP s1 HR3 hlt3 (.inr rfl) HK.out.2.2.2.1; have HI5 := qd ((hI3.out.turn s1 s2).turn s3 s4); have HT5 := qd (hT3.out.trans (s2.trans s4)); have HX5 := qd (hX3.out.turn (s2.trans s4)); clear hbe hy s1 s2 s3 s4 hgn; have HR4 := qd HR3; clear HR3; simp only [Nat.zero_add] at d0 d1 d2 d3 d4; go_wp2_with fail; go_roundw
             case rel => exact ⟨k3 + 1, by go_num, by omega, HI5, HT5, HX5⟩
             case measure => simp [intOf]; omega
           · obtain rfl : k3 = (on + 1) := by omega
             go_wp2_with fail; rw [HPP.out]; exact ⟨Γ6, _, _, rfl, hI3.out, hT3.out, HR6.out, by omega⟩
       · clear hkb; go_wp2_with (at_builtin; go_must (refine aA (hI.out.good.below (br.alloc (Nat.le_refl _) _)) aX rfl _ _ rfl (.slice oa on oc) on rfl hR.out ⟨wr.heap.size, 0, none⟩ 1 1 rfl (aC (f := ay.enc (eS ⟨#[125]⟩)) (al _ _) ⟨_, fun _ _ => rfl, fP _ (by decide)⟩ (dx (eS ⟨#[125]⟩))) (by omega) (by omega) ?c2))
         case c2 =>
          intro g6 c6 w6 Γ6 q1 q2 q3 _ _ _; have hq := (ai.of_below (Γ := Γr) (br.alloc (Nat.le_refl _) (.cells #[.int .i64 4, .int .i64 0, .int .i64 0, .string ⟨#[125]⟩, .int .i64 0] 31))).trans q2; have HI6 : Hid (In Γ6 w6 wb) := hI.out.turn q1 hq; have HT6 : Hid (ai Γ w Γ6 w6) := hT.out.trans hq; have HX6 := qd (hX.out.turn hq); have HR6 := qd q3; clear q1 q2 q3 hq m0 m1 m2 m3 c0; go_wp2_with fail
          go_loopw [13] (fun i ws => ∃ k3 : Nat, i = .int .i64 k3 ∧ k3 ≤ (on + 1) ∧ Hid (In Γ6 ws wb) ∧ Hid (ai Γ w Γ6 ws) ∧ Hid (Bx Γ6 ws (w.heap.size + 1) (.cells #[.int .i64 t0, .int .i64 t1, .int .i64 t2, .string t3, .int .i64 t4] 31 (0, 0)))) (fun i _ => (on + 1) + 1 - (intOf i).toNat)
          case atStart => exact ⟨0, rfl, by omega, HI6, HT6, HX6⟩
          case round =>
           obtain ⟨k3, rfl, hk3, hI3, hT3, hX3⟩ := hrel; obtain ⟨x0, x1, x2, x3, x4⟩ := cF hX3.out.1; have hsx := af hX3.out.1
           by_cases hlt3 : k3 < (on + 1)
           · obtain ⟨g3, hg3⟩ := HR6.out.pos (by omega); have HR3 := HR6.out; simp only [hg3] at HR3 ⊢; obtain ⟨b3, o3, y, hbe, hb3, hy, d0, d1, d2, d3, d4⟩ := HR3.view.tokAt hI3.out.good hlt3; obtain ⟨rfl, rfl⟩ : g3 = b3 ∧ 0 = o3 := by simpa using hbe
             have hgn : Γ6 g3 ≠ none := HR3.some; have z1 := hI3.out.good.free hgn (k3 * 5 + 1); have z2 := hI3.out.good.free hgn (k3 * 5 + 2); have hne : g3 ≠ w.heap.size + 1 := fun e => hgn (by rw [e]; exact hX3.out.2)
             have hne' : w.heap.size + 1 ≠ g3 := fun e => hne e.symm
             obtain ⟨s1, s2⟩ := bP hI3.out.good HR3 hlt3 (.inl rfl) HK.out.2.2.1; obtain ⟨s3, s4⟩ := bP s1 HR3 hlt3 (.inr rfl) HK.out.2.2.2.1; have HI5 := qd ((hI3.out.turn s1 s2).turn s3 s4); have HT5 := qd (hT3.out.trans (s2.trans s4)); have HX5 := qd (hX3.out.turn (s2.trans s4)); clear hbe hy s1 s2 s3 s4 hgn; have HR4 := qd HR3; clear HR3; simp only [Nat.zero_add] at d0 d1 d2 d3 d4; go_wp2_with fail; go_roundw
             case rel => exact ⟨k3 + 1, by go_num, by omega, HI5, HT5, HX5⟩
             case measure => simp [intOf]; omega
           · obtain rfl : k3 = (on + 1) := by omega
             go_wp2_with fail; rw [HPP.out]; exact ⟨Γ6, _, _, rfl, hI3.out, hT3.out, HR6.out, by omega⟩
end Go.Proofs.YthkebhjaaikopaaGreatDoor

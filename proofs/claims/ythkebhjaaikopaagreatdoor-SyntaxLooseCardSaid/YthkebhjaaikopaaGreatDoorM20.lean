/- Part of the proof of SyntaxLooseCardSaid (KE). -/
import Derived.Test.YthkebhjaaikopaaGreatDoorM19
set_option maxHeartbeats 8000000
namespace Go.Proofs.YthkebhjaaikopaaGreatDoor
open Go.ChangeShapes Go.WideShapes Go.ChangeAt Go.RowKit Go.Deep Go.Joins Go.Instr
theorem aD.new {Γ : Gh} {w : World} (hG : aD Γ w) {r : Rl} {f : Nat → Value} (hf : cG Γ r f) {cs : Array Value} (hs : cs.size = r.sz) (h : ∀ j, j < r.sz → cs[j]? = some (f j)) : aD (Γ.set w.heap.size (r, 1, 1)) (w.alloc (.cells cs r.el)) ∧ ai Γ w (Γ.set w.heap.size (r, 1, 1)) (w.alloc (.cells cs r.el)) ∧ Rw (Γ.set w.heap.size (r, 1, 1)) r (.slice (some ⟨w.heap.size, 0, none⟩) 1 1) 1 := by
 have hno : Γ w.heap.size = none := by
  cases e : Γ w.heap.size with
  | none => rfl
  | some x => exact absurd (hG.lt (k := w.heap.size) (by rw [e]; simp)) (by omega)
 have hle' : Γ.le (Γ.set w.heap.size (r, 1, 1)) := Gh.set_le Γ fun r' m' c' h => by rw [hno] at h; cases h
 refine ⟨fun k r' m' c' hk => ?_, ⟨hle', fun k hk => ?_, am.of_below (br.alloc (by simp) _)⟩, .inr ⟨_, 1, 1, rfl, Gh.set_same _ _ _, Nat.le_refl _, Nat.le_refl _, by decide⟩⟩
 · by_cases e : k = w.heap.size
   · subst e; rw [Gh.set_same] at hk; injection hk with hk; injection hk with k1 hk; injection hk with k2 k3; subst k1 k2 k3; exact ⟨cs, heap_alloc_new w _, by rw [hs, Nat.one_mul], Nat.le_refl _, by decide, fun i hi => ⟨f, hf.le hle', fun j hj => by
      obtain rfl : i = 0 := by omega
      simpa using h j hj⟩⟩
   · rw [Gh.set_ne _ _ e] at hk; obtain ⟨cur, g1, g2, g3, g4, g5⟩ := hG k r' m' c' hk; refine ⟨cur, (heap_alloc_old w _ (af g1)).trans g1, g2, g3, g4, fun i1 h1 => ?_⟩; obtain ⟨f, k1, k2⟩ := g5 i1 h1; exact ⟨f, k1.le hle', k2⟩
 · by_cases e : k = w.heap.size
   · exact .inr (by omega)
   · rw [Gh.set_ne _ _ e] at hk; exact .inl hk
theorem ci.tokAt {Γ : Gh} {w : World} {a : Option Addr} {n c i : Nat} (hG : aD Γ w) (hv : ci Γ .tok (.slice a n c) n) (hi : i < n) : ∃ b off, ∃ t : ay, a = some ⟨b, off, none⟩ ∧ b < w.heap.size ∧ dt t ∧ w.cell? ⟨b, off + i * 5, none⟩ = some (.int .i64 t.kind) ∧ w.cell? ⟨b, off + i * 5 + 1, none⟩ = some (.int .i64 t.at1) ∧ w.cell? ⟨b, off + i * 5 + 2, none⟩ = some (.int .i64 t.line) ∧ w.cell? ⟨b, off + i * 5 + 3, none⟩ = some (.string t.text) ∧ w.cell? ⟨b, off + i * 5 + 4, none⟩ = some (.int .i64 t.n) := by
 obtain ⟨a', cap, e, h2, h3, h4⟩ := hv.cells hG; injection e with e1 _ _; subst e1; obtain ⟨b, off, h5, h6, _, h7⟩ := h4 (by omega); obtain ⟨f, ⟨t, t1, t2⟩, f3⟩ := h7 i hi; have g : ∀ j, j < 5 → w.cell? ⟨b, off + i * 5 + j, none⟩ = some (t.enc j) := fun j hj => (f3 j hj).trans (congrArg some (t1 j hj))
 exact ⟨b, off, t, h5, h6, t2, g 0 (by omega), g 1 (by omega), g 2 (by omega), g 3 (by omega), g 4 (by omega)⟩
theorem aD.free {Γ : Gh} {w : World} (hG : aD Γ w) {b : Nat} (hb : Γ b ≠ none) (j : Nat) : w.frozen? ⟨b, j, none⟩ = false := by
 cases e : Γ b with
 | none => exact absurd e hb
 | some x =>
   obtain ⟨r, m, c⟩ := x; obtain ⟨cur, h1, _⟩ := hG b r m c e; exact frozen_of_row w b j _ _ h1
theorem Rw.apart {Γ : Gh} {r r' : Rl} {v v' : Value} {n n' g : Nat} (h : Rw Γ r v n) (h' : Rw Γ r' v' n') (hr : r ≠ r') (hg : v'.ownBlock = some g) : v.ownBlock ≠ some g := by
 intro hg2; rcases h with ⟨rfl, _⟩ | ⟨a, c, m, rfl, h1, _⟩
 · cases hg2
 · rcases h' with ⟨rfl, _⟩ | ⟨a', c', m', rfl, h1', _⟩
   · cases hg
   · simp only [Value.ownBlock, Option.some.injEq] at hg hg2; subst hg; subst hg2; rw [h1] at h1'; injection h1' with h1'; injection h1' with h1' _; exact hr h1'
theorem gj {Γ : Gh} {w : World} {g rn oc n : Nat} {v : Value} (hG : aD Γ w) (hR : Rw Γ .row (.slice (some ⟨g, 0, none⟩) rn oc) rn) (hrn : 1 ≤ rn) (hv : Rw Γ .tok v n) (hn : n ≤ 2000000) : aD Γ (w.setCell ⟨g, rn - 1, none⟩ v) ∧ ai Γ w Γ (w.setCell ⟨g, rn - 1, none⟩ v) := by
 rcases hR with ⟨h, _⟩ | ⟨g', cap, m, h, h2, h3, _⟩
 · cases h
 · simp only [Value.slice.injEq, Option.some.injEq, Addr.mk.injEq, and_true, true_and] at h; obtain ⟨rfl, rfl⟩ := h; exact ⟨hG.setCell h2 (i := rn - 1) (j := 0) (by omega) (by decide) (by simp [Rl.sz]) fun f _ _ => ⟨n, hv, hn⟩, ai.setCell (by rw [h2]; simp) _ _⟩
def th (Γ : Gh) (w : World) (wb n at1 : Nat) (e : Ending) (w' : World) : Prop := ∃ Γ' rv rn nx ok, e = .returned (.tuple #[rv, .int .i64 nx, .bool ok]) ∧ In Γ' w' wb ∧ ai Γ w Γ' w' ∧ ci Γ' .row rv rn ∧ (ok = true → (at1 : Int) < nx ∧ nx ≤ n)
theorem rx {Γ : Gh} {wb : Nat} (a : Option Addr) (n c at1 : Nat) (w : World) (h : In Γ w wb) (hv : ci Γ .tok (.slice a n c) n) (hn : n ≤ 1000000) (hat : at1 ≤ 1000002) :
 Calls Tryz.prog 135 #[.pointer (some ⟨wb, 0, none⟩), .slice a n c, .int .i64 at1] w (th Γ w wb n at1) := by
 have H := qd h; have HV := qd hv; obtain ⟨PP, hPP⟩ : ∃ PP, PP = th Γ w wb n at1 := ⟨_, rfl⟩; rw [← hPP]; have HPP := qd hPP; clear h hv hPP; go_enter Tryz.func135, Tryz.ntmps135; go_wp2_with fail
 go_loopw [9, 10, 11] (fun o d i wr => ∃ (Γr : Gh) (k rn : Nat) (dd : Int) (g oc : Nat) (ea : Option Addr) (en ec : Nat), i = .int .i64 k ∧ at1 ≤ k ∧ k ≤ 1000002 ∧ d = .int .i64 dd ∧ -(k : Int) ≤ dd ∧ dd ≤ k ∧ o = .slice (some ⟨g, 0, none⟩) rn oc ∧ 1 ≤ rn ∧ rn ≤ k + 1 ∧ en ≤ k ∧ Hid (Rw Γr .row (.slice (some ⟨g, 0, none⟩) rn oc) rn) ∧ Hid (wr.cell? ⟨g, rn - 1, none⟩ = some (.slice ea en ec)) ∧ Hid (Rw Γr .tok (.slice ea en ec) en) ∧ Hid (In Γr wr wb) ∧ Hid (ai Γ w Γr wr)) (fun _ _ i _ => 1000003 - (intOf i).toNat)
 case atStart =>
  obtain ⟨h1, h2, h3⟩ := H.out.good.new (r := .row) (f := fun _ => .slice none 0 0) ⟨0, Rw.nil _ _, by omega⟩ (cs := #[.slice none 0 0]) rfl (fun j hj => by
   obtain rfl : j = 0 := by simp [Rl.sz] at hj; omega
   rfl)
  exact ⟨_, at1, 1, 0, _, _, none, 0, 0, rfl, Nat.le_refl _, hat, rfl, by omega, by omega, rfl, Nat.le_refl _, by omega, by omega, h3, (cell_of_row _ _ 0 _ _ _ (al w _)).trans rfl, Rw.nil _ _, H.out.turn h1 h2, h2⟩
 case round =>
  obtain ⟨Γr, k, rn, dd, g, oc, ea, en, ec, rfl, hk1, hk2, rfl, hd1, hd2, rfl, hr1, hr2, hen, hR, hE, hER, hI, hT⟩ := hrel
  by_cases hkn : k < n
  · obtain ⟨b, off, t, rfl, hb, ht, d0, d1, d2, d3, d4⟩ := (HV.out.le hT.out.le).tokAt hI.out.good hkn; obtain ⟨t0, t1, t2, t3, t4⟩ := t; simp only at d0 d1 d2 d3 d4; have HT := qd ht; clear ht; have HO : Hid (∀ w', In Γr w' wb → Calls Tryz.prog 163 #[.pointer (some ⟨wb, 0, none⟩), .agg #[.int .i64 t0, .int .i64 t1, .int .i64 t2, .string t3, .int .i64 t4]] w' fun r w'' => (∃ b, r = .returned (.bool b)) ∧ Below w'.heap.size w' w'') := fun w' h => pt ⟨t0, t1, t2, t3, t4⟩ w' h
    have HL : Hid (∀ w', In Γr w' wb → Calls Tryz.prog 164 #[.pointer (some ⟨wb, 0, none⟩), .agg #[.int .i64 t0, .int .i64 t1, .int .i64 t2, .string t3, .int .i64 t4]] w' fun r w'' => (∃ b, r = .returned (.bool b)) ∧ Below w'.heap.size w' w'') := fun w' h => nV ⟨t0, t1, t2, t3, t4⟩ w' h
    have HS : Hid (∀ (s : ByteArray) w', Calls Tryz.prog 35 #[.agg #[.int .i64 t0, .int .i64 t1, .int .i64 t2, .string t3, .int .i64 t4], .string s] w' fun r w'' => (∃ b, r = .returned (.bool b)) ∧ Below w'.heap.size w' w'') := fun s w' => bI ⟨t0, t1, t2, t3, t4⟩ s w'
    go_wp2_with fail; have hA : Hid (Below wr.heap.size wr (wr.alloc (.cells #[.int .i64 t0, .int .i64 t1, .int .i64 t2, .string t3, .int .i64 t4] 31))) := br.alloc (Nat.le_refl _) _; refine (HO.out _ (hI.out.below hA.out)).mono ?_; rintro e w1 ⟨⟨b1, rfl⟩, h1⟩; have HB1 : Hid (Below wr.heap.size wr w1) := hA.out.trans (h1.mono (by simp)); have k1 := bZ h1 (al wr _); clear h1 d0 d1 d2 d3 d4 hA; obtain ⟨d0, d1, d2, d3, d4⟩ := cF k1; have hs1 := af k1; go_wp2_with fail; refine (HL.out _ (hI.out.below HB1.out)).mono ?_; rintro e w2 ⟨⟨b2, rfl⟩, h2⟩; have HB2 : Hid (Below wr.heap.size wr w2) := HB1.out.trans (h2.mono HB1.out.size); have k2 := bZ h2 k1; clear h2 k1 d0 d1 d2 d3 d4 HB1; obtain ⟨d0, d1, d2, d3, d4⟩ := cF k2; have hs2 := af k2; go_wp2_with fail; refine (HS.out _ _).mono ?_; rintro e w3 ⟨⟨b3, rfl⟩, h3⟩; have HB3 : Hid (Below wr.heap.size wr w3) := HB2.out.trans (h3.mono HB2.out.size); have k3 := bZ h3 k2; clear h3 k2 d0 d1 d2 d3 d4 HB2; obtain ⟨d0, d1, d2, d3, d4⟩ := cF k3; have hs3 := af k3; have HI3 : Hid (In Γr w3 wb) := hI.out.below HB3.out; have HT3 : Hid (ai Γ w Γr w3) := hT.out.trans (ai.of_below HB3.out); have HK3 := qd k3; clear k3; have hgw : Hid (g < wr.heap.size) := World.block_lt_of_cell? wr ⟨g, rn - 1, none⟩ hE.out; have HE3 : Hid (w3.cell? ⟨g, rn - 1, none⟩ = some (.slice ea en ec)) := (HB3.out.cell (p := ⟨g, rn - 1, none⟩) hgw.out).trans hE.out
    by_cases hc1 : dd = 0 ∧ b2 = true
    · obtain ⟨rfl, rfl⟩ := hc1; go_wp2_with fail; refine (HS.out _ _).mono ?_; rintro e w4 ⟨⟨b4, rfl⟩, h4⟩; have HB4 : Hid (Below w3.heap.size w3 w4) := h4; clear h4; go_wp2_with fail; rw [HPP.out]; exact ⟨Γr, _, rn, _, b4, rfl, HI3.out.below HB4.out, HT3.out.trans (ai.of_below HB4.out), hR.out.view, fun _ => ⟨by omega, by omega⟩⟩
    · by_cases hc2 : dd = 0 ∧ b3 = true
      · obtain ⟨rfl, rfl⟩ := hc2; obtain rfl : b2 = false := by cases b2 <;> simp_all
        go_wp2_with (at_builtin; go_must (refine aA (HI3.out.good.below (br.alloc (Nat.le_refl _) _)) tK rfl _ _ rfl (.slice (some ⟨g, 0, none⟩) rn oc) rn rfl hR.out ⟨w3.heap.size, 0, none⟩ 1 1 rfl (aC (f := fun _ => .slice none 0 0) (al _ _) ⟨0, Rw.nil _ _, by omega⟩ ?c1) (by omega) (by omega) ?c2))
        case c1 =>
         intro j hj; obtain rfl : j = 0 := by simp [Rl.sz] at hj; omega
         rfl
        case c2 =>
         intro g5 c5 w5 Γ5 q1 q2 q3 _ _ q6; have HT5 : Hid (ai Γ w Γ5 w5) := HT3.out.trans ((ai.of_below (br.alloc (Nat.le_refl _) _)).trans q2); have HI5 : Hid (In Γ5 w5 wb) := (HI3.out.below (br.alloc (Nat.le_refl _) _)).turn q1 q2; have HR5 := qd q3; have HE5 : Hid (w5.cell? ⟨g5, rn + 1 - 1, none⟩ = some (.slice none 0 0)) := by
          unfold Hid; have := q6 0 0 (.slice none 0 0) (by omega) (by decide) (by simp); simpa [Rl.sz] using this
         clear q1 q2 q3 q6; go_wp2_with fail; go_roundw
         case rel => exact ⟨Γ5, k + 1, rn + 1, 0, g5, c5, none, 0, 0, by go_num, by omega, by omega, rfl, by omega, by omega, rfl, by omega, by omega, by omega, HR5, HE5, Rw.nil _ _, HI5, HT5⟩
         case measure => simp [intOf]; omega
      · have hi : ((rn : Int) - 1).toNat = rn - 1 := by omega
        have hgn : Hid (Γr g ≠ none) := by
         rcases hR.out with ⟨h, _⟩ | ⟨g', cap, m, h, h2, _⟩
         · cases h
         · simp only [Value.slice.injEq, Option.some.injEq, Addr.mk.injEq, and_true] at h; obtain ⟨rfl, _⟩ := h; unfold Hid; rw [h2]; simp
        have e3 := HE3.out; have z3 := HI3.out.good.free hgn.out (rn - 1); have HOW : Hid ((Value.slice ea en ec).ownBlock ≠ some g) := hER.out.apart hR.out nofun rfl; have hg3 : g < w3.heap.size := World.block_lt_of_cell? w3 ⟨g, rn - 1, none⟩ e3; have HC1 : Hid (∀ j, j < Rl.tok.sz → (#[Value.int .i64 t0, .int .i64 t1, .int .i64 t2, .string t3, .int .i64 t4] : Array Value)[j]? = some (ay.enc ⟨t0, t1, t2, t3, t4⟩ j)) := fun j hj => by
         match j, hj with
         | 0, _ => rfl
         | 1, _ => rfl
         | 2, _ => rfl
         | 3, _ => rfl
         | 4, _ => rfl
         | q + 5, hj => exact absurd hj (by simp [Rl.sz])
        have hi1 : (1 : Int) ≤ (rn : Int) := by omega
        have hi2 : (rn : Int) - 1 < (rn : Int) := by omega
        by_cases hd : dd = 0
        · obtain rfl : b2 = false := by cases b2 <;> simp_all
          obtain rfl : b3 = false := by cases b3 <;> simp_all
          subst hd; cases b1
          · go_wp2_with fail
            go_region_law ((refine cu (HI3.out.drew.good.below (br.alloc (Nat.le_refl _) _)) aX rfl (.tmp 75) (.tmp 77) rfl (.slice ea en ec) en rfl hER.out ⟨w3.heap.size, 0, none⟩ 1 1 rfl (aC (f := ay.enc ⟨t0, t1, t2, t3, t4⟩) (al _ _) ⟨_, fun _ _ => rfl, HT.out⟩ HC1.out) (by omega) (by omega) ?_; intro g7 c7 w6 Γ6 q1 q2 q3 q4 _ _; have e6 := ((World.cell?_of_block (a := ⟨g, rn - 1, none⟩) (q4.block g (by simp; omega) (fun h => HOW.out h.1))).trans ((Below.refl w3.drew.heap.size w3.drew).alloc (Nat.le_refl _) (.cells #[.int .i64 t0, .int .i64 t1, .int .i64 t2, .string t3, .int .i64 t4] 31) |>.cell (p := ⟨g, rn - 1, none⟩) hg3)).trans HE3.out; have z6 := q1.free (q2.le.some hgn.out) (rn - 1)))
            all_goals
             have HT6 : Hid (ai Γ w Γ6 w6) := HT3.out.trans ((ai.of_below ((br.drew).alloc (by simp) _)).trans q2); have HR6 : Hid (Rw Γ6 .row (.slice (some ⟨g, 0, none⟩) rn oc) rn) := hR.out.le q2.le; have HQ : Hid (Rw Γ6 .tok (.slice (some ⟨g7, 0, none⟩) (en + 1) c7) (en + 1)) := q3; obtain ⟨s1, s2⟩ := gj q1 HR6.out hr1 q3 (by omega); have HT7 := qd (HT6.out.trans s2); have HI7 := qd (((HI3.out.drew.below (br.alloc (Nat.le_refl _) _)).turn q1 q2).turn s1 s2); have HE7 := qd (World.cell?_setCell_same w6 ⟨g, rn - 1, none⟩ (.slice (some ⟨g7, 0, none⟩) (en + 1) c7) e6); clear q1 q2 q3 q4 s1 s2; go_wp2_with fail; go_roundw
             case rel => exact ⟨Γ6, k + 1, rn, _, g, oc, _, en + 1, c7, by go_num, by omega, by omega, rfl, by omega, by omega, rfl, by omega, by omega, by omega, HR6, HE7, HQ, HI7, HT7⟩
             case measure => simp [intOf]; omega
          · go_wp2_with fail
            go_region_law ((refine cu (HI3.out.drew.good.below (br.alloc (Nat.le_refl _) _)) aX rfl (.tmp 75) (.tmp 77) rfl (.slice ea en ec) en rfl hER.out ⟨w3.heap.size, 0, none⟩ 1 1 rfl (aC (f := ay.enc ⟨t0, t1, t2, t3, t4⟩) (al _ _) ⟨_, fun _ _ => rfl, HT.out⟩ HC1.out) (by omega) (by omega) ?_; intro g7 c7 w6 Γ6 q1 q2 q3 q4 _ _; have e6 := ((World.cell?_of_block (a := ⟨g, rn - 1, none⟩) (q4.block g (by simp; omega) (fun h => HOW.out h.1))).trans ((Below.refl w3.drew.heap.size w3.drew).alloc (Nat.le_refl _) (.cells #[.int .i64 t0, .int .i64 t1, .int .i64 t2, .string t3, .int .i64 t4] 31) |>.cell (p := ⟨g, rn - 1, none⟩) hg3)).trans HE3.out; have z6 := q1.free (q2.le.some hgn.out) (rn - 1)))
            all_goals
             have HT6 : Hid (ai Γ w Γ6 w6) := HT3.out.trans ((ai.of_below ((br.drew).alloc (by simp) _)).trans q2); have HR6 : Hid (Rw Γ6 .row (.slice (some ⟨g, 0, none⟩) rn oc) rn) := hR.out.le q2.le; have HQ : Hid (Rw Γ6 .tok (.slice (some ⟨g7, 0, none⟩) (en + 1) c7) (en + 1)) := q3; obtain ⟨s1, s2⟩ := gj q1 HR6.out hr1 q3 (by omega); have HT7 := qd (HT6.out.trans s2); have HI7 := qd (((HI3.out.drew.below (br.alloc (Nat.le_refl _) _)).turn q1 q2).turn s1 s2); have HE7 := qd (World.cell?_setCell_same w6 ⟨g, rn - 1, none⟩ (.slice (some ⟨g7, 0, none⟩) (en + 1) c7) e6); clear q1 q2 q3 q4 s1 s2; go_wp2_with fail; go_roundw
             case rel => exact ⟨Γ6, k + 1, rn, _, g, oc, _, en + 1, c7, by go_num, by omega, by omega, rfl, by omega, by omega, rfl, by omega, by omega, by omega, HR6, HE7, HQ, HI7, HT7⟩
             case measure => simp [intOf]; omega
        · have hd' : (dd == 0) = false := by rw [beq_eq_false_iff_ne]; exact hd
          cases b1 <;> cases b2 <;> cases b3
          all_goals
           go_wp2_with fail
           go_region_law ((refine cu (HI3.out.drew.good.below (br.alloc (Nat.le_refl _) _)) aX rfl (.tmp 75) (.tmp 77) rfl (.slice ea en ec) en rfl hER.out ⟨w3.heap.size, 0, none⟩ 1 1 rfl (aC (f := ay.enc ⟨t0, t1, t2, t3, t4⟩) (al _ _) ⟨_, fun _ _ => rfl, HT.out⟩ HC1.out) (by omega) (by omega) ?_; intro g7 c7 w6 Γ6 q1 q2 q3 q4 _ _; have e6 := ((World.cell?_of_block (a := ⟨g, rn - 1, none⟩) (q4.block g (by simp; omega) (fun h => HOW.out h.1))).trans ((Below.refl w3.drew.heap.size w3.drew).alloc (Nat.le_refl _) (.cells #[.int .i64 t0, .int .i64 t1, .int .i64 t2, .string t3, .int .i64 t4] 31) |>.cell (p := ⟨g, rn - 1, none⟩) hg3)).trans HE3.out; have z6 := q1.free (q2.le.some hgn.out) (rn - 1)))
           all_goals
            have HT6 : Hid (ai Γ w Γ6 w6) := HT3.out.trans ((ai.of_below ((br.drew).alloc (by simp) _)).trans q2); have HR6 : Hid (Rw Γ6 .row (.slice (some ⟨g, 0, none⟩) rn oc) rn) := hR.out.le q2.le; have HQ : Hid (Rw Γ6 .tok (.slice (some ⟨g7, 0, none⟩) (en + 1) c7) (en + 1)) := q3; obtain ⟨s1, s2⟩ := gj q1 HR6.out hr1 q3 (by omega); have HT7 := qd (HT6.out.trans s2); have HI7 := qd (((HI3.out.drew.below (br.alloc (Nat.le_refl _) _)).turn q1 q2).turn s1 s2); have HE7 := qd (World.cell?_setCell_same w6 ⟨g, rn - 1, none⟩ (.slice (some ⟨g7, 0, none⟩) (en + 1) c7) e6); clear q1 q2 q3 q4 s1 s2; go_wp2_with fail; go_roundw
            case rel => exact ⟨Γ6, k + 1, rn, _, g, oc, _, en + 1, c7, by go_num, by omega, by omega, rfl, by omega, by omega, rfl, by omega, by omega, by omega, HR6, HE7, HQ, HI7, HT7⟩
            case measure => simp [intOf]; omega
  · go_wp2_with fail; rw [HPP.out]; exact ⟨Γr, _, 0, _, false, rfl, hI.out, hT.out, (Rw.nil _ _).view, fun h => by cases h⟩
end Go.Proofs.YthkebhjaaikopaaGreatDoor

/- Part of the proof of SyntaxLooseCardSaid (ZS). -/
import Derived.Test.YthkebhjaaikopaaGreatDoorM05
import Derived.Test.YthkebhjaaikopaaGreatDoorM16
set_option maxHeartbeats 8000000
namespace Go.Proofs.YthkebhjaaikopaaGreatDoor
open Go.ChangeShapes Go.WideShapes Go.ChangeAt Go.RowKit Go.Deep Go.Joins Go.Instr Go.MapKept
set_option maxRecDepth 100000 in
theorem fd (l : List ay) (v : Value) (w : World) (hs : Sl w 5 ay.enc v l) (hr : bG l = true) (hl : l.length ≤ 1000000) (hsz : ∀ t ∈ l, t.text.size ≤ 1000000) (G : lf w) (R : R Int) (hR : parse (l.map ay.kt) (20 * l.length + 30) = R) :
 Calls Tryz.prog 7 #[v] w (fC l w R) := by
 have hmf : ∀ (fn : Fn) (first cap : Array Value) (w : World), (Instr.makeFunc fn first cap).run Tryz.prog w = .ok (.func fn first cap) w := fun _ _ _ _ => rfl
 have hmm := @run_makeMap Tryz.prog; have h0 : 0 < l.length := by
  unfold bG at hr; exact (of_decide_eq_true hr).1
 obtain ⟨aa, ca, rfl, ma, HA⟩ := aV hs; have HS := qd hs; have HR := qd hr; have HM := qd hR; have HSZ := qd hsz; have HGL := qd G; obtain ⟨b0, off0, rfl, hb0, hc0⟩ := HA.out h0; have HT0 : Hid (∀ j, j < 5 → w.cell? ⟨b0, off0 + j, none⟩ = some ((l.getD 0 default).enc j)) := fun j hj => by simpa using hc0 0 h0 j hj
 clear hs hr hR hsz G HA hc0
 go_enter_defers Tryz.func7, Tryz.ntmps7
 go_wp2_with fail; refine (qX _ l _ (HS.out.keep (((( Below.refl _ _).alloc (Nat.le_refl _) _).alloc (by simp <;> omega) _).alloc (by simp <;> omega) _)) HR.out).mono ?_; rintro e w1 ⟨rfl, hw1⟩; have HB1 : Hid (Below w.heap.size w w1) := (((( Below.refl _ _).alloc (Nat.le_refl _) _).alloc (by simp <;> omega) _).alloc (by simp <;> omega) _).trans (hw1.mono (by simp <;> omega)); have r0 : w1.heap[w.heap.size]? = some (.cells #[.slice none 0 0] 27 (0, 0)) := (hw1.block _ (by simp <;> omega)).trans (ru w _ _ _); have r1 : w1.heap[w.heap.size + 1]? = some (.cells #[.int .i64 0] 23 (0, 0)) := (hw1.block _ (by simp <;> omega)).trans (kX w _ _ _); have r2 : w1.heap[w.heap.size + 1 + 1]? = some (.cells #[.int .i64 0] 3 (0, 0)) := (hw1.block _ (by simp)).trans (kY w _ _ _); have hs1 := hw1.size; simp only [World.size_alloc] at hs1; clear hw1; have HR0 := qd r0; have HR1 := qd r1; have HR2 := qd r2; clear r0 r1 r2; have n1 : IntKind.i64.wrap ((l.length : Int) - 1) = (l.length : Int) - 1 := IntWalk.i64_in _ (by omega); have n2 : (0 : Int) ≤ (l.length : Int) - 1 := by omega
 go_wp2_with fail; refine (rh _ l _ (HS.out.keep HB1.out) h0 (by omega)).mono ?_; rintro e w2 ⟨v2, rfl, hown2, hB2⟩; obtain ⟨ca2, c2, o2, hv2, hc2, hca2, hcm2⟩ := qx hown2 h0; subst hv2; have HB2 := qd hB2; have hs2 := hB2.size; have HC2 := qd hc2; clear hown2 hB2 hc2 n1 n2; go_wp2_with fail; generalize hW3 : World.alloc (World.alloc w2 _) _ = W3; have hB3 : Below w2.heap.size w2 W3 := by rw [← hW3]; exact (br.alloc (Nat.le_refl _) _).alloc (by simp <;> omega) _
 have hm3 : W3.heap[w2.heap.size]? = some (.map #[] 0) := by
  rw [← hW3]; show ((w2.heap.push _).push _)[w2.heap.size]? = _; rw [Array.getElem?_push, if_neg (by simp), Array.getElem?_push, if_pos rfl]
 have hp3 : W3.heap[w2.heap.size + 1]? = some (.cells #[.slice (some ⟨o2, 0, none⟩) l.length c2, .slice none 0 0, .map (some w2.heap.size), .map none, .map none, .int .i64 0, .bool false] 52 (0, 0)) := by
  rw [← hW3]; show ((w2.heap.push _).push _)[w2.heap.size + 1]? = _; rw [Array.getElem?_push, if_pos (by simp)]
 have hs3 := hB3.size; have hm3l := af hm3; have hp3l := af hp3; have HB3 := qd hB3; have HM3 := qd hm3; have HP3 := qd hp3; clear hW3 hB3 hm3 hp3; have HB03 : Hid (Below w.heap.size w W3) := (HB1.out.trans (HB2.out.mono (by omega))).trans (HB3.out.mono (by omega)); refine (nN _ W3 (by kernel_rfl) (jC HGL.out.tab HB03.out)).mono ?_; rintro e w4 ⟨rfl, hw4⟩; have hB4 : Below W3.heap.size W3 w4 := by rw [hw4]; exact br.alloc (Nat.le_refl _) _
 have hf4 : w4.heap[W3.heap.size]? = some (.cells (bE.map Value.string).toArray 9 (0, 0)) := by
  rw [hw4]; show (W3.heap.push _)[W3.heap.size]? = _; rw [Array.getElem?_push, if_pos rfl]
 have hs4 : W3.heap.size < w4.heap.size := af hf4; have HB4 := qd hB4; have HF4 := qd hf4; clear hw4 hB4 hf4; go_wp2_with fail
 go_loopw [8, 29] (fun s8 i wr => ∃ (k : Nat) (es : Array MapEntry) (c : Nat), k ≤ 57 ∧ i = .int .i64 k ∧ wr.heap[w2.heap.size]? = some (.map es c) ∧ ei (sN (bE.take k)) es.toList ∧ am (fun x => x = w2.heap.size) w4 wr) (fun _ i _ => 57 - (intOf i).toNat)
 case atStart => exact ⟨0, _, _, by omega, rfl, (HB4.out.block _ hm3l).trans HM3.out, rfl, am.refl _ _⟩
 case round =>
  obtain ⟨k, es, c, hk, rfl, hm, hE, hO⟩ := hrel; have hp : wr.heap[w2.heap.size + 1]? = _ := (hO.block _ (by omega) (by omega)).trans ((HB4.out.block _ hp3l).trans HP3.out); have hf : wr.heap[W3.heap.size]? = _ := (hO.block _ hs4 (by omega)).trans HF4.out; have hk0 : (0 : Int) ≤ (k : Int) := by omega
  by_cases hlt : k < 57
  · have hkl : (k : Int) < 57 := by omega
    have kf : wr.cell? ⟨W3.heap.size, k, none⟩ = some (.string (bE.getD k default)) := by
     rw [cell_of_row wr _ k _ _ _ hf]; have : bE.length = 57 := by decide +kernel
     simp [List.getD_eq_getElem?_getD, show k < bE.length by omega]
    have kp : wr.cell? ⟨w2.heap.size + 1, 2, none⟩ = some (.map (some w2.heap.size)) := (cell_of_row wr _ 2 _ _ _ hp).trans rfl; have HFR := qd (ll k hlt); have HME := qd hm; have HEE := qd hE; have HOO := qd hO; clear hm hE hO hp hf; go_wp2_with (at_mapUpdate; refine ie _ rfl _ _ _ 49 4 (.inl rfl) Tryz.underlying49 w2.heap.size c es rfl (bE.getD k default) rfl (.bool true) rfl _ HME.out HEE.out HFR.out ?_); intro es' w' g1 g2 g3; have G1 := qd g1; have G2 := qd g2; have G3 := qd g3; clear g1 g2 g3; go_wp2_with fail; go_roundw
    case rel => exact ⟨k + 1, es', c + 1, by omega, by go_num, G1.out, by have h : ei (sN (bE.take k) ++ [(bE.getD k default, .bool true)]) es'.toList := G2.out; rwa [mE k hlt] at h, HOO.out.trans G3.out (fun x hx => .inl hx)⟩
    case measure => simp [intOf]; omega
  · obtain rfl : k = 57 := by omega
    have hkl : ¬ ((57 : Nat) : Int) < 57 := by omega
    have HME := qd hm; have HEE := qd hE; have HOO := qd hO; have HPP := qd hp; clear hm hE hO hp hf; have hsr : w4.heap.size ≤ wr.heap.size := HOO.out.size; have HK0 : Hid ((wr.alloc (.map #[] 0)).heap[wr.heap.size]? = some (.map #[] 0)) := ew wr _; go_wp2_with (refine fE 5 (.tmp 40) 50 3 Tryz.underlying50 wr.heap.size rfl (lX fW) [] _ 0 #[] rfl HK0.out rfl nE ?_); intro es5 c5 w5 g1 g2 g3
    try simp only [List.drop_succ_cons, List.drop_zero]
    have hs5 : wr.heap.size < w5.heap.size := af g1; have hp5 : w5.heap[w2.heap.size + 1]? = _ := (g3.block _ (by simp; omega) (by omega)).trans ((l5 wr _ (by omega)).trans HPP.out); have x3 : w5.cell? ⟨w2.heap.size + 1, 3, none⟩ = some (.map none) := (cell_of_row w5 _ 3 _ _ _ hp5).trans rfl; have z3 := frozen_of_row w5 _ 3 _ _ hp5; have G1 := qd g1; have G2 := qd g2; have G3 := qd g3; have HP5 := qd hp5; clear g1 g2 g3 hp5; obtain ⟨W6, hW6⟩ : ∃ W6 : World, W6 = w5.setCell ⟨w2.heap.size + 1, 3, none⟩ (.map (some wr.heap.size)) := ⟨_, rfl⟩; have hZ6 : W6.heap.size = w5.heap.size := by rw [hW6]; simp [World.setCell]
    have hp6 : W6.heap[w2.heap.size + 1]? = some (.cells #[.slice (some ⟨o2, 0, none⟩) l.length c2, .slice none 0 0, .map (some w2.heap.size), .map (some wr.heap.size), .map none, .int .i64 0, .bool false] 52 (0, 0)) := by
     rw [hW6]; exact (heap_setCell_same w5 _ 3 _ 52 _ HP5.out).trans (by kernel_rfl)
    have ho6 : am (fun x => x = w2.heap.size + 1) w5 W6 := by rw [hW6]; exact (am.refl (fun x => x = w2.heap.size + 1) w5).setCell (p := ⟨w2.heap.size + 1, 3, none⟩) (.inl rfl) _
    have HO6 := qd ho6; have HP6 := qd hp6; have HK1 : Hid ((W6.alloc (.map #[] 0)).heap[w5.heap.size]? = some (.map #[] 0)) := by rw [← hZ6]; exact ew W6 _
    rw [hW6] at HK1; have HW6 := qd hW6; clear hW6 ho6 hp6; go_wp2_with (refine fE 7 (.tmp 45) 50 3 Tryz.underlying50 w5.heap.size rfl (lX eJ) [] _ 0 #[] rfl HK1.out rfl oe ?_); intro es7 c7 w7 g1 g2 g3
    try simp only [List.drop_succ_cons, List.drop_zero]
    rw [← HW6.out] at g3; clear x3 z3; have hs7 : w5.heap.size < w7.heap.size := af g1; have hp7 : w7.heap[w2.heap.size + 1]? = _ := (g3.block _ (by simp; omega) (by omega)).trans ((l5 W6 _ (by omega)).trans HP6.out); have x4 : w7.cell? ⟨w2.heap.size + 1, 4, none⟩ = some (.map none) := (cell_of_row w7 _ 4 _ _ _ hp7).trans rfl; have z4 := frozen_of_row w7 _ 4 _ _ hp7; have G4 := qd g1; have G5 := qd g2; have G6 := qd g3; have HP7 := qd hp7; clear g1 g2 g3 hp7; go_wp2_with fail; generalize hW8 : World.setCell w7 _ _ = W8; have hn8 : W8.heap.size = w7.heap.size := by rw [← hW8]; simp [World.setCell]
    have hp8 : W8.heap[w2.heap.size + 1]? = some (.cells #[.slice (some ⟨o2, 0, none⟩) l.length c2, .slice none 0 0, .map (some w2.heap.size), .map (some wr.heap.size), .map (some w5.heap.size), .int .i64 0, .bool false] 52 (0, 0)) := by
     rw [← hW8]; exact (heap_setCell_same w7 _ 4 _ 52 _ HP7.out).trans (by kernel_rfl)
    have h78 : am (fun x => x = w2.heap.size + 1) w7 W8 := by rw [← hW8]; exact (am.refl (fun x => x = w2.heap.size + 1) w7).setCell (p := ⟨w2.heap.size + 1, 4, none⟩) (.inl rfl) _
    have h58 : am (fun x => x = w2.heap.size + 1) w5 W8 := ((HO6.out.alloc _).trans G6.out (fun x hx => .inr (by have : x = w5.heap.size := hx; omega))).trans h78 (fun x hx => .inl hx); have hr8 : am (fun x => x = w2.heap.size + 1) wr W8 := (((am.refl (fun x => x = w2.heap.size + 1) wr).alloc _).trans G3.out (fun x hx => .inr (by have : x = wr.heap.size := hx; omega))).trans h58 (fun x hx => .inl hx); have hs8 := h78.size; have hB28 : Below w2.heap.size w2 W8 := ((HB3.out.trans (HB4.out.mono (by omega))).trans (HOO.out.below (by omega) (fun k hk => by have : k = w2.heap.size := hk; omega))).trans (hr8.below (by omega) (fun k hk => by have : k = w2.heap.size + 1 := hk; omega)); have hB08 : Below w.heap.size w W8 := (HB1.out.trans (HB2.out.mono (by omega))).trans (hB28.mono (by omega)); have hlt2 := af HC2.out.1; obtain ⟨hE, hPI⟩ := rb w1 W8 l o2 (w2.heap.size + 1) w2.heap.size wr.heap.size w5.heap.size c2 ca2 es es5 es7 c c5 c7 h0 hl HSZ.out (HGL.out.keep HB1.out) HR.out hp8
     ((hB28.block _ hlt2).trans HC2.out.1) (fun i hi j hj => (World.cell?_of_block (a := ⟨o2, i * 5 + j, none⟩) (hB28.block _ hlt2)).trans (HC2.out.2.1 i hi j hj)) hca2
     ((hr8.block _ (by omega) (by omega)).trans HME.out) ((h58.block _ (by omega) (by omega)).trans G1.out) ((h78.block _ (by omega) (by omega)).trans G4.out)
     (by have := HEE.out; rwa [oU] at this) (by simpa using G2.out) (by simpa using G5.out) (HB2.out.trans (hB28.mono (by omega))) (by omega) (by omega) (by omega) (by omega) (by omega)
    have q0 : W8.heap[w.heap.size]? = some (.cells #[.slice none 0 0] 27 (0, 0)) := (hB28.block _ (by omega)).trans ((HB2.out.block _ (by omega)).trans HR0.out); have q1 : W8.heap[w.heap.size + 1]? = some (.cells #[.int .i64 0] 23 (0, 0)) := (hB28.block _ (by omega)).trans ((HB2.out.block _ (by omega)).trans HR1.out); have q2 : W8.heap[w.heap.size + 1 + 1]? = some (.cells #[.int .i64 0] 3 (0, 0)) := (hB28.block _ (by omega)).trans ((HB2.out.block _ (by omega)).trans HR2.out); obtain ⟨E, hEq⟩ : ∃ E : aN, E = ⟨l, w2.heap.size + 1, o2, c2, w2.heap.size, wr.heap.size, w5.heap.size, w1.heap.size, .cells ca2 31 (0, 0), .map es c, .map es5 c5, .map es7 c7, w1⟩ := ⟨_, rfl⟩; rw [← hEq] at hE hPI; have hEL : E.L = l := by rw [hEq]
    have hEp : w2.heap.size + 1 = E.pb := by rw [hEq]
    have hEB : E.B = w1.heap.size := by rw [hEq]
    have hEW : E.W0 = w1 := by rw [hEq]
    have hEK : l.map ay.kt = E.K := by rw [hEq]; rfl
    have hbd := hY hPI; have HQ0 := qd q0; have HQ1 := qd q1; have HQ2 := qd q2; have HB8 := qd hB08; rw [hEp]; rw [hEp] at hW8; obtain ⟨m, hm⟩ : ∃ m, m = 20 * l.length + 30 := ⟨_, rfl⟩; have HMR : Hid (parse E.K m = R) := by rw [← hEK, hm]; exact HM.out
    have hn : 20 * (E.K.length - 0) + 1 ≤ m := by rw [← hEK, hm]; simp
    have h := og hE m; have hnb : w7.heap.size = W8.heap.size := hn8.symm; rw [hnb]; obtain ⟨PP, hPP⟩ : ∃ PP : Ending → World → Prop, PP = d6 E (.at W8.heap.size) ⟨.slice none 0 0, fun _ => False⟩ W8 (VI ap) R := ⟨_, rfl⟩; have HN0 : aE E (.at W8.heap.size) (VI ap) PP ⟨0, [], 0, false⟩ ⟨.slice none 0 0, fun _ => False⟩ W8 R := ⟨hbd, Nat.le_refl _, hPI, fun e w' h => by rw [hPP]; exact h⟩; have HLT : w.heap.size + 1 + 1 < W8.heap.size := by omega
    have HERR : Hid (∀ (T : Array Value) (c a : Int) (w1 : World), T.getD 2 undef = .pointer (some ⟨w.heap.size, 0, none⟩) → T.getD 3 undef = .pointer (some ⟨w.heap.size + 1, 0, none⟩) → T.getD 4 undef = .pointer (some ⟨w.heap.size + 1 + 1, 0, none⟩) → PP (bi c a) w1 → bodyPostD Tryz.prog Tryz.f7 (fC l w R) (.panic [{ v := .iface 45 (.agg #[.int .i64 c, .int .i64 a]), recovered := false }]) { tmps := T, defers := nS w.heap.size (w.heap.size + 1) (w.heap.size + 1 + 1) } w1) := by
     intro T c a w1 t2 t3 t4 hh; rw [hPP] at hh; obtain ⟨p, tv', hRR, e2, hf⟩ := qZ hh; have hno : ∀ k, k < w2.heap.size → ¬ (k = E.pb ∨ Value.ownBlock (.slice none 0 0) = some k ∨ W8.heap.size ≤ k) := fun k hk h => by
      rcases h with h | h | h
      · omega
      · simp [Value.ownBlock] at h
      · omega
     refine nD w w1 l T c a p R hRR (by rw [e2]; unfold aN.tk; rw [hEL]) _ _ _ t2 t3 t4 ((hf.out.block _ (by omega) (hno _ (by omega))).trans HQ0.out) ((hf.out.block _ (by omega) (hno _ (by omega))).trans HQ1.out) ((hf.out.block _ (by omega) (hno _ (by omega))).trans HQ2.out) (by omega) (by omega) (by omega) (by omega) (by omega) (by omega) (HB8.out.trans (hf.out.below HB8.out.size (fun k hk => ?_))); rcases hk with hk | hk | hk
     · omega
     · simp [Value.ownBlock] at hk
     · have : W8.heap.size ≤ k := hk; omega
    clear hp8 h78 h58 hr8 hB28 hB08 q0 q1 q2 hEq hbd hnb; replace hPP := qd hPP; replace HN0 : aE E (.at W8.heap.size) (VI ap) PP ⟨0, [], 0, false⟩ ⟨.slice none 0 0, fun _ => False⟩ W8 (((bf E.K m).modL [] >>= fun l => Go.Proofs.YthkebhjaaikopaaGreatDoor.put 0 60 ⟨#[]⟩ 0 l) ⟨0, [], 0, false⟩) := HN0.to HMR.out.symm; have HL0 := Lt.refl HN0.pi.ik HN0.pi.d0; obtain ⟨s, hs0⟩ : ∃ s : St, s = ⟨0, [], 0, false⟩ := ⟨_, rfl⟩; obtain ⟨tv, htv⟩ : ∃ tv : TV, tv = ⟨.slice none 0 0, fun _ => False⟩ := ⟨_, rfl⟩; rw [← hs0] at HL0 HN0; rw [← htv] at HN0; have hsi : s.i = 0 := by rw [hs0]
    replace hs0 := qd hs0; replace htv := qd htv; rw [← hsi] at hn; replace hm := qd hm; replace hPI := qd hPI; replace hEp := qd hEp; replace hEL := qd hEL; replace hEB := qd hEB; replace hEW := qd hEW; replace hEK := qd hEK; replace hW8 := qd hW8; replace hn8 := qd hn8; generalize hW21 : World.alloc W8 _ = W21; have HMn21 : ag _ tv W21 (W8.heap.size) (bB (60) (0) (0) (⟨#[]⟩) (0) ((.slice none 0 0))) 39 := ag.new HN0 hW21 rfl; have HN21 := HN0.below (ae hW21); have HZ21 := qd (ah hW21); clear HN0 hW21; have HV0 := HN21.nil
    go_loopw [] (fun wr => ∃ (n : Nat) (l2 : List Int) (sr : St) (tvr : TV) (kv : Value), n ≤ m ∧ 20 * (E.K.length - sr.i) + 1 ≤ n ∧ l2.length ≤ sr.i ∧ aE E (.at W8.heap.size) (VI ap) PP sr tvr wr (((bf E.K n).modL l2 >>= fun l => Go.Proofs.YthkebhjaaikopaaGreatDoor.put 0 60 ⟨#[]⟩ 0 l) sr) ∧ VL E (.at W8.heap.size) l2 kv tvr wr ∧ ag (.at W8.heap.size) tvr wr (W8.heap.size) (bB 60 0 0 ⟨#[]⟩ 0 kv) 39 ∧ Lt E.K 0 s sr) (fun wr => r8 E wr)
    case atStart => exact ⟨m, [], s, tv, _, Nat.le_refl _, hn, Nat.zero_le _, HN21, HV0, HMn21, HL0⟩
    case round =>
     obtain ⟨n, l2, sr, tvr, kv, hnm, hfu, hll, HNr, HVr, HMnr, HLr⟩ := hrel; have hi2k := HNr.pi.ik; have HNr_i := qd (show sr.i < E.L.length from HNr.pi.i); obtain ⟨n, rfl⟩ : ∃ n2, n = n2 + 1 := ⟨n - 1, by omega⟩; obtain ⟨va, vc, rfl⟩ := HVr.slice; obtain ⟨wo, rfl⟩ : ∃ wo : World, wo = wr := ⟨_, rfl⟩; replace HNr : aE E (.at W8.heap.size) (VI ap) PP sr tvr wo ((modLF E.K (bf E.K n) l2 >>= fun l => Go.Proofs.YthkebhjaaikopaaGreatDoor.put 0 60 ⟨#[]⟩ 0 l) sr) := HNr; replace HNr := HNr.assoc rfl; have HLq := Lt.refl HNr.pi.ik HNr.pi.d0; have HPL := qd (fO HNr.pi); go_wp2_with fail; refine HNr.quiet br (cW E sr tvr _ hE HNr.pi) ?_; intro w22 hb22 HN22; have HMn22 := HMnr.below hb22; have HVn22 := HVr.below hb22; clear HMnr HVr HNr hb22; replace HN22 := HN22.here rfl; have HX := qd (E.tok HNr_i.out); rw [HX.out, show (E.tk sr.i).kt.kind = (E.tk sr.i).kind from rfl] at HN22; have hfl0 := fun x : ay => tH x.kind x.at1 x.line x.text x.n
     by_cases hk0 : (E.tk sr.i).kind = 0
     ·
      replace HN22 := HN22.iten hk0; replace HN22 := HN22.pure rfl; have hz0 : ((E.tk sr.i).kind == 0) = true := by simpa using hk0
      have hz1 : ((E.tk sr.i).kind != 0) = false := by simpa using hk0
      replace hfl0 := fun x : ay => tH 0 x.at1 x.line x.text x.n
      go_wp2_with fail; clear hz0 hz1 hk0 hfl0; have hcell : ∀ j, j < 5 → (w22).cell? ⟨b0, off0 + j, none⟩ = some ((E.tk 0).enc j) := fun j hj => (HN22.pi.low.cell (p := ⟨b0, off0 + j, none⟩) (by have h1 := hEB.out; have h2 := HB1.out.size; show b0 < E.B; omega)).trans (by rw [hEW.out]; refine (HB1.out.cell (p := ⟨b0, off0 + j, none⟩) hb0).trans ?_; unfold aN.tk; rw [hEL.out]; exact HT0.out j hj)
      have HCC := qd (cK hcell); clear hcell; have hl0 : (0 : Int) < (l.length : Int) := by omega
      refine sQ (PP := PP) (q0 := w.heap.size) (q1 := w.heap.size + 1) (q2 := w.heap.size + 1 + 1) ?_ (fun T k x w1 t2 t3 t4 hh => HERR.out T k x w1 t2 t3 t4 hh); have HN23 := HN22.below br.drew; have HMn23 := HMn22.below br.drew; have HVn23 := HVn22.below br.drew; clear HN22 HMn22 HVn22; obtain ⟨n0, n1, n2, n3, n4, n5, n6⟩ := HMn23.nd; have sx0 := HCC.out.1; have sx1 := HCC.out.2.1; have sx2 := HCC.out.2.2.1; have sx3 := HCC.out.2.2.2.1; have sx4 := HCC.out.2.2.2.2; refine aj (z := 1000) (S := fun w' : World => w'.cell? ⟨W8.heap.size, 0, none⟩ = some (.int .i64 (60)) ∧ w'.cell? ⟨W8.heap.size, 1, none⟩ = some (.int .i64 (0)) ∧ w'.cell? ⟨W8.heap.size, 2, none⟩ = some (.int .i64 (0)) ∧ w'.cell? ⟨W8.heap.size, 3, none⟩ = some (.string ⟨#[]⟩) ∧ w'.cell? ⟨W8.heap.size, 4, none⟩ = some (.int .i64 (0)) ∧ w'.cell? ⟨W8.heap.size, 5, none⟩ = some ((.slice va l2.length vc)) ∧ w'.cell? ⟨b0, off0, none⟩ = some (.int .i64 (E.tk 0).kind) ∧ w'.cell? ⟨b0, off0 + 1, none⟩ = some (.int .i64 (E.tk 0).at1) ∧ w'.cell? ⟨b0, off0 + 2, none⟩ = some (.int .i64 (E.tk 0).line) ∧ w'.cell? ⟨b0, off0 + 3, none⟩ = some (.string (E.tk 0).text) ∧ w'.cell? ⟨b0, off0 + 4, none⟩ = some (.int .i64 (E.tk 0).n)) (by kernel_rfl) ⟨n0, n1, n2, n3, n4, n5, sx0, sx1, sx2, sx3, sx4⟩ (fun hHeld => ?_); refine bm (i := 0) (v := .pointer (some ⟨E.pb, 0, none⟩)) rfl (by kernel_rfl) (by kernel_rfl) (by kernel_rfl) (by kernel_rfl) (by kernel_rfl) (fun _ _ _ h => eA (by decide) h) (Or.inl ⟨by kernel_rfl, fun w hSw => by
       (try dsimp only at hSw)
       go_simp⟩) hHeld ?_
      simp only [pu]; refine bm (i := 1) (v := .slice (some ⟨b0, off0, none⟩) l.length ca) rfl (by kernel_rfl) (by kernel_rfl) (by kernel_rfl) (by kernel_rfl) (by kernel_rfl) (fun _ _ _ h => eA (by decide) h) (Or.inl ⟨by kernel_rfl, fun w hSw => by
       (try dsimp only at hSw)
       go_simp⟩) hHeld ?_
      simp only [pu]; refine bm (i := 2) (v := .pointer (some ⟨b0, off0, none⟩)) rfl (by kernel_rfl) (by kernel_rfl) (by kernel_rfl) (by kernel_rfl) (by kernel_rfl) (fun _ _ _ h => eA (by decide) h) (Or.inl ⟨by kernel_rfl, fun w hSw => by
       (try dsimp only at hSw)
       go_simp⟩) hHeld ?_
      simp only [pu]; refine bm (i := 3) (v := .agg #[.int .i64 (E.tk 0).kind, .int .i64 (E.tk 0).at1, .int .i64 (E.tk 0).line, .string (E.tk 0).text, .int .i64 (E.tk 0).n]) rfl (by kernel_rfl) (by kernel_rfl) (by kernel_rfl) (by kernel_rfl) (by kernel_rfl) (fun _ _ _ h => eA (by decide) h) (Or.inl ⟨by kernel_rfl, fun w hSw => by
       (try dsimp only at hSw)
       go_simp⟩) hHeld ?_
      simp only [pu]; refine bm (i := 4) (v := .agg #[.int .i64 (60), .int .i64 (0), .int .i64 (0), .string ⟨#[]⟩, .int .i64 (0), (.slice va l2.length vc)]) rfl (by kernel_rfl) (by kernel_rfl) (by kernel_rfl) (by kernel_rfl) (by kernel_rfl) (fun _ _ _ h => eA (by decide) h) (Or.inl ⟨by kernel_rfl, fun w hSw => by
       (try dsimp only at hSw)
       go_simp⟩) hHeld ?_
      simp only [pu]; refine aO 5 fun K hK => ?_
      go_simp; refine HN23.putR (t := 0) hE br HVn23 (by decide) ?_ rfl (fun _ _ _ hh => ⟨⟨rfl, rfl, rfl, rfl⟩, _, _, rfl, hh⟩); rintro k24 s24 tv24 w24 HF24 HN24; have HMn24 := HMn23.fr HN23.base HF24; have hcell : ∀ j, j < 5 → (w24).cell? ⟨b0, off0 + j, none⟩ = some ((E.tk 0).enc j) := fun j hj => (HN24.pi.low.cell (p := ⟨b0, off0 + j, none⟩) (by have h1 := hEB.out; have h2 := HB1.out.size; show b0 < E.B; omega)).trans (by rw [hEW.out]; refine (HB1.out.cell (p := ⟨b0, off0 + j, none⟩) hb0).trans ?_; unfold aN.tk; rw [hEL.out]; exact HT0.out j hj)
      have HCD := qd (cK hcell); clear hcell; clear n0 n1 n2 n3 n4 n5 n6 sx0 sx1 sx2 sx3 sx4; obtain ⟨n0, n1, n2, n3, n4, n5, n6⟩ := HMn24.nd; have sx0 := HCD.out.1; have sx1 := HCD.out.2.1; have sx2 := HCD.out.2.2.1; have sx3 := HCD.out.2.2.2.1; have sx4 := HCD.out.2.2.2.2; clear hHeld; refine hK.out _ _ ⟨n0, n1, n2, n3, n4, n5, sx0, sx1, sx2, sx3, sx4⟩ (fun hHeld => ?_); clear hK K
      try simp only [pu]
      refine aK ?_; refine jH ?_; have hgo := HN24.ret (f := ap) rfl rfl; rw [hPP.out] at hgo; obtain ⟨x9, s9, tv9, hR9, hPI9, hF9⟩ := q7 hgo; clear hgo; have hno : ∀ k, k < w2.heap.size → ¬ (k = E.pb ∨ Value.ownBlock (.slice none 0 0) = some k ∨ W8.heap.size ≤ k) := fun k hk h => by
       have hpb := hEp.out; rcases h with h | h | h
       · omega
       · simp [Value.ownBlock] at h
       · have hlt8 := HLT; have h9 := hn8.out; omega
      have y0 := (hF9.out.block (w.heap.size) (by omega) (hno _ (by omega))).trans HQ0.out; have u00 : w24.cell? ⟨w.heap.size, 0, none⟩ = some (.slice none 0 0) := (cell_of_row _ _ 0 _ _ _ y0).trans rfl; have u0z := frozen_of_row _ _ 0 _ _ y0; clear y0; have y1 := (hF9.out.block (w.heap.size + 1) (by omega) (hno _ (by omega))).trans HQ1.out; have u10 : w24.cell? ⟨w.heap.size + 1, 0, none⟩ = some (.int .i64 0) := (cell_of_row _ _ 0 _ _ _ y1).trans rfl; have u1z := frozen_of_row _ _ 0 _ _ y1; clear y1; have y2 := (hF9.out.block (w.heap.size + 1 + 1) (by omega) (hno _ (by omega))).trans HQ2.out; have u20 : w24.cell? ⟨w.heap.size + 1 + 1, 0, none⟩ = some (.int .i64 0) := (cell_of_row _ _ 0 _ _ _ y2).trans rfl; have u2z := frozen_of_row _ _ 0 _ _ y2; clear y2; obtain ⟨sa, sn, sc, hsv⟩ : ∃ (sa : Option Addr) (sn sc : Nat), tv9.v = .slice sa sn sc := by
       obtain ⟨T, _, a2, _⟩ := hPI9.tree; rcases a2.2 with ⟨e, _⟩ | ⟨g, cap, cur, e, _⟩
       · exact ⟨_, _, _, e⟩
       · exact ⟨_, _, _, e⟩
      have kp := hPI9.c1; rw [hsv] at kp; have HSV := qd hsv; clear hsv; have HP9 := qd hPI9; have HF9 := qd hF9; have HR9 := qd hR9; clear hPI9 hF9 hR9 hno; go_wp2_with fail; refine qU (v := .slice sa sn sc) (q0 := w.heap.size) (q1 := w.heap.size + 1) (q2 := w.heap.size + 1 + 1) rfl rfl rfl ?_ ?_ ?_ ?_
      · simp [go_sem, u00]
      · simp [go_sem, u10]
      · simp [go_sem, u20]
      rw [← HSV.out]; have hb3 : Below w.heap.size w w24 := HB8.out.trans (HF9.out.out.below HB8.out.size (fun k hk => by
       have hpb := hEp.out; have h9 := hn8.out; rcases hk with hk | hk | hk
       · omega
       · simp [Value.ownBlock] at hk
       · have h3 : W8.heap.size ≤ k := hk; omega))
      have hEB2 := hEB.out; exact ni HR9.out HP9.out hEL.out (by omega) (by omega) (by omega) (by omega) ((((am.refl (fun k => k = w.heap.size ∨ k = w.heap.size + 1 ∨ k = w.heap.size + 1 + 1) w24).setCell (p := ⟨w.heap.size, 0, none⟩) (.inl (.inl rfl)) _).setCell (p := ⟨w.heap.size + 1, 0, none⟩) (.inl (.inr (.inl rfl))) _).setCell (p := ⟨w.heap.size + 1 + 1, 0, none⟩) (.inl (.inr (.inr rfl))) _) (((hb3.setCell (p := ⟨w.heap.size, 0, none⟩) (Nat.le_refl _) _).setCell (p := ⟨w.heap.size + 1, 0, none⟩) (show w.heap.size ≤ w.heap.size + 1 by omega) _).setCell (p := ⟨w.heap.size + 1 + 1, 0, none⟩) (show w.heap.size ≤ w.heap.size + 1 + 1 by omega) _)
     ·
      replace HN22 := HN22.ifen hk0; have hz0 : ((E.tk sr.i).kind == 0) = false := by simpa using hk0
      have hz1 : ((E.tk sr.i).kind != 0) = true := by simpa using hk0
      go_wp2_with fail; clear hz0 hz1 hfl0; replace HN22 := HN22.assoc rfl; refine HN22.take1 hE HLq rfl ?_ rfl (fun _ _ _ hh => by exact HERR.out _ _ _ _ rfl rfl rfl hh); rintro x25 s25 tv25 w25 HR25 HG25 HF25 HN25; have HMn25 := HMn22.fr HN22.base HF25; have HVn25 := HVn22.fr HN22.pi HF25 (fun _ h => h.elim); clear HMn22 HVn22 HN22 HR25 HF25; cases x25 with
      | true =>
       have HL25 := HG25.1 rfl; replace HN25 := HN25.iTn; unfold bV; go_wp2_with fail; go_roundw
       case rel => exact ⟨n, l2, s25, tv25, _, by omega, by have := HL25.i; omega, by have := HL25.i; omega, HN25, HVn25, HMn25, HLr.trans HL25 (Nat.zero_le _)⟩
       case measure => have h1 := fO HN25.pi; have h2 := HPL.out; have h3 := HL25.i; have h4 := HN25.pi.i; rw [h1, h2]; omega
      | false =>
       obtain rfl := HG25.2 rfl; replace HN25 := HN25.iFn; unfold bV; replace HN25 := HN25.assoc rfl; go_wp2_with fail; refine sQ (PP := PP) (q0 := w.heap.size) (q1 := w.heap.size + 1) (q2 := w.heap.size + 1 + 1) ?_ (fun T k x w1 t2 t3 t4 hh => HERR.out T k x w1 t2 t3 t4 hh); have HN26 := HN25.below br.drew; have HMn26 := HMn25.below br.drew; have HVn26 := HVn25.below br.drew; clear HN25 HMn25 HVn25; obtain ⟨n0, n1, n2, n3, n4, n5, n6⟩ := HMn26.nd; refine aj (z := 7) (S := fun w' : World => w'.cell? ⟨W8.heap.size, 0, none⟩ = some (.int .i64 (60)) ∧ w'.cell? ⟨W8.heap.size, 1, none⟩ = some (.int .i64 (0)) ∧ w'.cell? ⟨W8.heap.size, 2, none⟩ = some (.int .i64 (0)) ∧ w'.cell? ⟨W8.heap.size, 3, none⟩ = some (.string ⟨#[]⟩) ∧ w'.cell? ⟨W8.heap.size, 4, none⟩ = some (.int .i64 (0)) ∧ w'.cell? ⟨W8.heap.size, 5, none⟩ = some ((.slice va l2.length vc))) (by kernel_rfl) ⟨n0, n1, n2, n3, n4, n5⟩ (fun hHeld => ?_); refine bm (i := 0) (v := .pointer (some ⟨W8.heap.size, 5, none⟩)) rfl (by kernel_rfl) (by kernel_rfl) (by kernel_rfl) (by kernel_rfl) (by kernel_rfl) (fun _ _ _ h => eA (by decide) h) (Or.inl ⟨by kernel_rfl, fun w hSw => by
        (try dsimp only at hSw)
        go_simp⟩) hHeld ?_
       simp only [pu]; refine bm (i := 1) (v := (.slice va l2.length vc)) rfl (by kernel_rfl) (by kernel_rfl) (by kernel_rfl) (by kernel_rfl) (by kernel_rfl) (fun _ _ _ h => eA (by decide) h) (Or.inl ⟨by kernel_rfl, fun w hSw => by
        (try dsimp only at hSw)
        go_simp⟩) hHeld ?_
       simp only [pu]; refine bm (i := 2) (v := .pointer (some ⟨E.pb, 0, none⟩)) rfl (by kernel_rfl) (by kernel_rfl) (by kernel_rfl) (by kernel_rfl) (by kernel_rfl) (fun _ _ _ h => eA (by decide) h) (Or.inl ⟨by kernel_rfl, fun w hSw => by
        (try dsimp only at hSw)
        go_simp⟩) hHeld ?_
       simp only [pu]; refine aO 3 fun K hK => ?_
       go_simp; refine HN26.call br (ns hE (h.less (by omega : n ≤ m)) sr tv25 _ HN26.pi (by omega)) (qF hE.ends (au hE.ends n) HLq (by omega)) ?_ rfl (fun _ _ _ hh => ⟨⟨rfl, rfl, rfl, rfl⟩, _, _, rfl, hh⟩); rintro a27 s27 tv27 w27 HR27 ⟨HL27, HD27⟩ HF27 HN27; have HMn27 := HMn26.fr HN26.base HF27; have HVn27 := HVn26.fr HN26.pi HF27 (fun _ h => h.elim); clear HMn26 HVn26 HN26 HR27 HF27 n0 n1 n2 n3 n4 n5 n6; unfold ap; obtain ⟨n0, n1, n2, n3, n4, n5, n6⟩ := HMn27.nd; clear hHeld; refine hK.out _ _ ⟨n0, n1, n2, n3, n4, n5⟩ (fun hHeld => ?_); clear hK K
       try simp only [pu]
       refine aO 4 fun K hK => ?_
       go_simp; generalize hW28 : World.alloc w27 _ = W28; have HVk28 : VL _ _ [a27] (.slice (some ⟨w27.heap.size, 0, none⟩) 1 1) tv27 W28 := VL.lits HN27 [a27] (by simp) rfl hW28 rfl rfl; have HHk28 : W28.heap[w27.heap.size]? = some (.cells #[.int .i64 a27] 3 (0, 0)) := by rw [← hW28]; exact al _ _
       have HN28 := HN27.below (ae hW28); have HZ28 := qd (ah hW28); have HG28 := ae hW28; have HMn28 := HMn27.below (ae hW28); have HVn28 := HVn27.below (ae hW28); clear HN27 HMn27 HVn27 hW28; clear n0 n1 n2 n3 n4 n5 n6; obtain ⟨n0, n1, n2, n3, n4, n5, n6⟩ := HMn28.nd; clear hHeld; refine hK.out _ _ ⟨n0, n1, n2, n3, n4, n5⟩ (fun hHeld => ?_); clear hK K
       try simp only [pu]
       have HLL29 : Hid ((l2).length + 1 ≤ 1000000000) := (by unfold Hid; have := hE.capm; have := HNr_i.out; omega); have hbl29 := HN28.pi.bl; refine dm 5 fun K hK => ?_
       refine bu cS rfl (.tmp 59) (.tmp 62) rfl E.B bC (.slice va l2.length vc) (l2) rfl HVn28.1 w27.heap.size a27 #[.int .i64 a27] rfl HHk28 rfl (by intro u hu; simp at hu; rw [hu]; rfl) HLL29.out hbl29 ?_; intro g29 cap29 w29 hg1 hg2 hg3; obtain ⟨HN29, HVk29⟩ := HN28.grow hE HVn28 br hg2 hg1 (fun q hq => by
        obtain rfl : g29 = q := by simpa [Value.ownBlock] using hq
        exact hg3.elim .inl (fun h => .inr (by omega)))
       have HMn29 := HMn28.grow HVn28 (by decide) br hg2; clear HN28 HVk28 HHk28 HG28 hbl29 HMn28 HVn28 hg1 hg2 hg3; generalize hn29 : (l2).length + 1 = n29 at HVk29 ⊢; clear hn29; clear n0 n1 n2 n3 n4 n5 n6; obtain ⟨n0, n1, n2, n3, n4, n5, n6⟩ := HMn29.nd; clear hHeld; refine hK.out _ _ ⟨n0, n1, n2, n3, n4, n5⟩ (fun hHeld => ?_); clear hK K
       try simp only [pu]
       refine bm (i := 6) (v := .pointer (some ⟨W8.heap.size, 5, none⟩)) rfl (by kernel_rfl) (by kernel_rfl) (by kernel_rfl) (by kernel_rfl) (by kernel_rfl) (fun _ _ _ h => eA (by decide) h) (Or.inl ⟨by kernel_rfl, fun w hSw => by
        (try dsimp only at hSw)
        go_simp⟩) hHeld ?_
       simp only [pu]; have nf5 := HMn29.free 5; refine cL fun K hK => ?_
       go_simp; refine hK.out _ _ ?_; clear hK K
       try simp only [pu]
       refine aK ?_; clear n0 n1 n2 n3 n4 n5 n6 nf5; generalize hW30 : World.setCell w29 _ _ = W30; have HVn30 := HVk29.box HMn29 (by decide) (ag.outs hW30); have HN30 := HN29.box HMn29 (by decide) (ag.outs hW30); have HMn30 : ag _ tv27 W30 _ (bB (60) (0) (0) (⟨#[]⟩) (0) ((.slice (some ⟨g29, 0, none⟩) n29 cap29))) 39 := HMn29.set hW30; have HZ30 := qd (aq hW30); clear HVk29 HN29 HMn29 hW30; refine jH ?_; go_wp2_with fail; go_roundw
       case rel => exact ⟨n, l2 ++ [a27], s27, tv27, _, by omega, by have := HL27.i; omega, by have := HL27.i; simp; omega, HN30, HVn30, HMn30, HLr.trans HL27 (Nat.zero_le _)⟩
       case measure => have h1 := fO HN30.pi; have h2 := HPL.out; have h3 := HL27.i; have h4 := HN30.pi.i; rw [h1, h2]; omega
end Go.Proofs.YthkebhjaaikopaaGreatDoor

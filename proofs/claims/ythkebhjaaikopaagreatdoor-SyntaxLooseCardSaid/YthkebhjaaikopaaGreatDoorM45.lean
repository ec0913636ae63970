/- Part of the proof of SyntaxLooseCardSaid (KZ ME). -/
import Derived.Test.YthkebhjaaikopaaGreatDoorM37
import Derived.Test.YthkebhjaaikopaaGreatDoorM43
import Derived.Test.YthkebhjaaikopaaGreatDoorM44
import Derived.Test.YthkebhjaaikopaaGreatDoorM00
set_option maxHeartbeats 8000000
namespace Go.Proofs.YthkebhjaaikopaaGreatDoor
open Go.ChangeShapes Go.WideShapes Go.ChangeAt Go.RowKit Go.Deep Go.Joins Go.Instr
theorem mN (s : ByteArray) (w : World) (hr : (s.size : Int) ≤ 140737488351232) : Calls Tryz.prog 13 #[.string s] w (gU w) :=
 (Lx.lC s w hr).mono fun _ _ h => by
  obtain ⟨⟨v, he, h0⟩, hb⟩ := h; exact ⟨v, _, _, he, hb, h0⟩
theorem rm (s : ByteArray) (w : World) (hr : (s.size : Int) ≤ 140737488351232) : Calls Tryz.prog 6 #[.string s] w (gU w) := rl s w (mN s w hr)
theorem gU.plain {w : World} {r : Ending} {w' : World} (h : gU w r w') : ∃ v er a, r = .returned (.tuple #[v, .int .i64 er, .int .i64 a]) ∧ Below w.heap.size w w' ∧ (er = 0 → ∃ l : List ay, Sl w' 5 ay.enc v l ∧ bG l = true ∧ l.length ≤ 8193 ∧ ∀ t ∈ l, t.text.size ≤ 1000000) := by
 obtain ⟨v, er, a, h1, h2, h3⟩ := h; refine ⟨v, er, a, h1, h2, fun h0 => ?_⟩; obtain ⟨b, off, c, l, e, rfl, hF, hl, hk, ht⟩ := h3 h0; refine ⟨l ++ [e], hF.sl, hF.right hk, by simp; omega, fun t hm => ?_⟩; rcases List.mem_append.1 hm with h4 | h4
 · obtain ⟨i, hi, rfl⟩ := List.getElem_of_mem h4; have := (hF.ok i hi).2.1; rwa [List.getD_eq_getElem?_getD, List.getElem?_eq_getElem hi] at this
 · simp at h4; rw [h4]; exact ht
theorem n9 (s : ByteArray) (w : World) (hr : (s.size : Int) ≤ 140737488351232) : Calls Tryz.prog 6 #[.string s] w fun r w' => ∃ v er a, r = .returned (.tuple #[v, .int .i64 er, .int .i64 a]) ∧ Below w.heap.size w w' ∧ (er = 0 → ∃ l : List ay, Sl w' 5 ay.enc v l ∧ bG l = true ∧ l.length ≤ 8193 ∧ ∀ t ∈ l, t.text.size ≤ 1000000) :=
 (rm s w hr).mono fun _ _ h => h.plain
theorem jG {l m : List ay} (h : l.map ay.kt = m.map ay.kt) (hl : bG l = true) : bG m = true := by
 have hn : l.length = m.length := by have := congrArg List.length h; simpa using this
 unfold bG at hl ⊢; rw [decide_eq_true_iff] at hl ⊢; refine ⟨by omega, fun i hi => ?_⟩; have h3 := congrArg (fun l => l[i]?) h; simp only [List.getElem?_map] at h3; rw [List.getElem?_eq_getElem hi, List.getElem?_eq_getElem (by omega)] at h3; have h4 : (l[i]'(by omega)).kind = m[i].kind := by
  simp only [Option.map_some, Option.some.injEq] at h3; exact congrArg KT.kind h3
 have h5 := hl.2 i (by omega); rw [List.getD_eq_getElem?_getD, List.getElem?_eq_getElem (by omega)] at h5; rw [List.getD_eq_getElem?_getD, List.getElem?_eq_getElem hi, ← hn, ← h5]; simp [h4]
theorem lv {l m : List ay} (h : l.map ay.kt = m.map ay.kt) (hl : ∀ t ∈ l, t.text.size ≤ 1000000) : ∀ t ∈ m, t.text.size ≤ 1000000 := fun t ht => by
 have h1 : t.kt ∈ m.map ay.kt := List.mem_map_of_mem ht; rw [← h] at h1; obtain ⟨u, hu, e⟩ := List.mem_map.1 h1; have h2 := hl u hu; have h3 : u.text = t.text := congrArg KT.text e; rwa [h3] at h2
theorem qi (l : List ay) (k : Nat) (y : ay) (hk : k < l.length) (h : y.kt = (l.getD k default).kt) : (l.set k y).map ay.kt = l.map ay.kt := by
 rw [List.map_set, h]; apply List.ext_getElem?; intro i; rw [List.getElem?_set]
 by_cases e : k = i
 · subst e; simp [hk, List.getD_eq_getElem?_getD]
 · simp [e]
theorem Sl.cellT {w : World} {b off n c : Nat} {l : List ay} (h : Sl w 5 ay.enc (.slice (some ⟨b, off, none⟩) n c) l) {i j : Nat} (hi : i < l.length) (hj : j < 5) : w.cell? ⟨b, off + i * 5 + j, none⟩ = some ((l.getD i default).enc j) ∧ b < w.heap.size := by
 obtain ⟨a, cap, e, _, _, h4⟩ := h; injection e with e _ _; subst e; obtain ⟨b', o', e, hb, hc⟩ := h4 (by omega); injection e with e; injection e with e1 e2; subst e1; subst e2; exact ⟨hc i hi j hj, hb⟩
theorem oG (w : World) (E : aN) : fB w E (.slice none 0 0) [] := ⟨⟨none, 0, rfl, Nat.le_refl _, by decide, fun h => absurd h (by decide)⟩, fun i hi => absurd hi (by simp)⟩
theorem pf (w : World) : Calls Tryz.prog 10 #[.slice none 0 0, .slice none 0 0, .bool true] w fun e w' => e = .returned (.bool true) ∧ Below w.heap.size w w' :=
 have E : aN := ⟨[], 0, 0, 0, 0, 0, 0, 0, .cells #[] 0 (0, 0), .cells #[] 0 (0, 0), .cells #[] 0 (0, 0), .cells #[] 0 (0, 0), w⟩
 ix E E [] [] _ _ w (oG _ _) (oG _ _) rfl
set_option maxRecDepth 100000 in
theorem nB (s : ByteArray) (n : Int) (m : Int) (w : World) (hr : (s.size : Int) ≤ 140737488351232) (hm : w.cell? ⟨4, 0, none⟩ = some (.int .i64 m)) (G : lf w) :
  Calls Tryz.prog 4 #[.string s, .int .i64 n] w fun e w' => e = .returned (.bool true) ∧ Below w.heap.size w w' := by
 have HG := qd G; have HM := qd hm; have HR := qd hr; clear G hm hr; go_enter Tryz.func4, Tryz.ntmps4; go_wp2_with fail; refine (pV m _ HM.out HG.out).mono ?_; rintro e w1 ⟨rfl, hB⟩; have HB1 := qd hB; clear hB; go_wp2_with fail; refine (n9 s _ HR.out).mono ?_; rintro e w2 ⟨v, er, a, rfl, hB, hl⟩; have HB2 := qd (HB1.out.trans (hB.mono HB1.out.size)); have HL := qd hl; clear hB hl
 by_cases he : er = 0
 · subst he; obtain ⟨l, hS, hR, hlen, ht⟩ := HL.out rfl; obtain ⟨aa, ca, rfl, ma, HA⟩ := aV hS; have h0 : 0 < l.length := by unfold bG at hR; exact (of_decide_eq_true hR).1
   obtain ⟨b, off, rfl, hb, hc⟩ := HA.out h0; have HS := qd hS; have HRF := qd hR; have HT := qd ht; have HC := qd hc; clear hS hR ht hc HL HA; obtain ⟨i0, hi, hz0, hz1, hz2⟩ := uh; have hbd : i0.bytes * l.length ≤ 281474976710656 := by rw [hz2]; omega
   have hmx : l.length ≤ maxLen := by unfold maxLen; omega
   go_wp2_with (refine wpList_make_full _ rfl (.tmp 30) (.tmp 30) 22 rfl w2.heap.size 31 i0 _ 5 Tryz.underlying22 hi hz0 hz1 .i64 .i64 _ _ l.length rfl rfl rfl rfl hbd hmx (Nat.le_refl _) ?_); intro w3 ho hg; obtain ⟨cur, hcur, hcs⟩ := qq ho; have hwg : w2.heap.size < w3.heap.size := af hcur; have HB3 : Hid (Below w2.heap.size w2 w3) := by unfold Hid; exact (br.grown hg (Nat.le_refl _) (fun k hk => by cases hk))
   clear ho hg hi hz0 hz1 hz2 hbd; have HCUR := qd hcur; have HCS := qd hcs; clear hcur hcs; go_wp2_with (refine j6 rfl (.tmp 32) (.tmp 33) 22 22 31 rfl Tryz.underlying22 w2.heap.size l.length 5 l.length ca (by kernel_rfl) ⟨b, off, none⟩ rfl rfl cur 31 (eF 5 ay.enc l) HCUR.out (cN _ _ _) (fun j v hv => fJ (by decide) (HS.out.keep HB3.out) j v hv) (by rw [cN, HCS.out]) (oE fun x _ j hj => by rcases j with _ | _ | _ | _ | j <;> rfl) ?_); generalize hW4 : World.setRow w3 _ _ = w4; have HRT : Hid (jr w4 w2.heap.size l) := by unfold Hid; rw [← hW4]; exact setRow_heap w3 _ cur _ 31 (0, 0) HCUR.out
   have HB4 : Hid (Below w2.heap.size w2 w4) := by unfold Hid; rw [← hW4]; exact (am.of_below HB3.out).trans (pp w3 w2.heap.size _) (fun x hx => .inr (by omega)) |>.below (Nat.le_refl _) (fun k hk => hk)
   clear hW4 HB3 HCUR HCS hwg; go_wp2_with fail
   go_loopw [10] (fun i wr => ∃ (k : Nat) (l2 : List ay), k ≤ l.length ∧ i = .int .i64 k ∧ l2.length = l.length ∧ Hid (l2.map ay.kt = l.map ay.kt) ∧ Hid (jr wr w2.heap.size l2) ∧ Hid (Below w2.heap.size w2 wr)) (fun i _ => l.length - (intOf i).toNat)
   case atStart => exact ⟨0, l, Nat.zero_le _, rfl, rfl, rfl, HRT.out, HB4.out⟩
   case round =>
    obtain ⟨k, l2, hk, rfl, hl2, HK, HRr, HBr⟩ := hrel
    by_cases hlt : k < l.length
    · have hok1 := HRr.out.ok (k := k) (j := 1) (by omega) (by omega); obtain ⟨c1, f1⟩ := hok1; obtain ⟨c2, f2⟩ := HRr.out.ok (k := k) (j := 2) (by omega) (by omega); have hwr := af HRr.out; have hkk : k ≤ 8193 := by omega
      go_wp2_with fail; go_roundw
      case rel =>
       generalize hA : wrap64 (3 * (k : Int) + n.tmod 1000) = A; have h1 := HRr.out.set k 1 ⟨(l2.getD k default).kind, A, (l2.getD k default).line, (l2.getD k default).text, (l2.getD k default).n⟩ (by omega) (by omega) (fun i h1 h2 => by rcases i with _ | _ | _ | _ | i <;> first | rfl | omega); have e1 := qi l2 k ⟨(l2.getD k default).kind, A, (l2.getD k default).line, (l2.getD k default).text, (l2.getD k default).n⟩ (by omega) rfl; generalize hl3 : l2.set k _ = l3 at h1 e1; have hn3 : l3.length = l.length := by rw [← hl3]; simpa using hl2
       have h2 := h1.set k 2 ⟨(l3.getD k default).kind, (l3.getD k default).at1, 1 + (k : Int) % 7, (l3.getD k default).text, (l3.getD k default).n⟩ (by omega) (by omega) (fun i h1 h2 => by rcases i with _ | _ | _ | _ | i <;> first | rfl | omega); have e2 := qi l3 k ⟨(l3.getD k default).kind, (l3.getD k default).at1, 1 + (k : Int) % 7, (l3.getD k default).text, (l3.getD k default).n⟩ (by omega) rfl; exact ⟨k + 1, _, by omega, by go_num, by simpa using hn3, e2.trans (e1.trans HK.out), h2, (HBr.out.setCell (p := ⟨w2.heap.size, k * 5 + 1, none⟩) (Nat.le_refl _) _).setCell (p := ⟨w2.heap.size, k * 5 + 2, none⟩) (Nat.le_refl _) _⟩
      case measure => simp [intOf]; omega
    · obtain rfl : k = l.length := by omega
      obtain ⟨R, hRp⟩ : ∃ R, parse (l.map ay.kt) (20 * l.length + 30) = R := ⟨_, rfl⟩; have HRp := qd hRp; clear hRp; have HGr := qd (HG.out.keep (HB2.out.trans (HBr.out.mono HB2.out.size))); have HSr := qd (HS.out.keep HBr.out); have HBw := qd (HB2.out.trans (HBr.out.mono HB2.out.size)); go_wp2_with fail; refine (fd l _ _ HSr.out HRF.out (by omega) HT.out HGr.out R HRp.out).mono ?_; intro e w5 h5; have hs2 := HRr.out.sl (by rw [hl2]; exact hmx); rw [hl2] at hs2; cases R with
      | stuck => exact h5.elim
      | err c p =>
       obtain ⟨rfl, hB5⟩ := h5; have HS5 := qd (HSr.out.keep hB5); have HM5 := qd (hs2.keep hB5); have HG5 := qd (HGr.out.keep hB5); have HB5 := qd (HBw.out.trans (hB5.mono HBw.out.size)); have hp : p < l.length := by
        have := qw (by simpa using h0) HRp.out; simpa using this
       clear hB5 hs2; generalize hat : (l.getD p default).at1 = at1; have HAT := qd hat; clear hat; go_wp2_with fail; refine (fd l2 _ _ HM5.out (jG HK.out.symm HRF.out) (by omega) (lv HK.out.symm HT.out) HG5.out (.err c p) (by rw [HK.out, hl2]; exact HRp.out)).mono ?_; rintro e w6 ⟨rfl, hB6⟩; have HS6 := qd (HS5.out.keep hB6); have HM6 := qd (HM5.out.keep hB6); have HB6 := qd (HB5.out.trans (hB6.mono HB5.out.size)); clear hB6; generalize hat : (l2.getD p default).at1 = at2; have HAT2 := qd hat; clear hat; go_wp2_with fail; refine (pf _).mono ?_; rintro e w7 ⟨rfl, hB7⟩; have HS7 := qd (HS6.out.keep hB7); have HM7 := qd (HM6.out.keep hB7); have HB7 := qd (HB6.out.trans (hB7.mono HB6.out.size)); have hb7 : b < w7.heap.size := (HS7.out.cellT (i := 0) (j := 0) h0 (by omega)).2; clear hB7
       by_cases hc0 : c = 0
       · subst hc0; go_wp2_with fail; go_ret; exact ⟨rfl, HB7.out⟩
       · have hc1 : (c == 0) = false := by simpa using hc0
         have HC0 := qd hc0; clear hc0; go_wp2_with fail
         go_loopw [17] (fun i wr => ∃ j : Nat, j ≤ p ∧ i = .int .i64 j ∧ wr = w7) (fun i _ => l.length - (intOf i).toNat)
         case atStart => exact ⟨0, Nat.zero_le _, rfl, rfl⟩
         case round =>
          obtain ⟨j, hj, rfl, rfl⟩ := hrel; have hjl : j < l.length := by omega
          have r1 : wr.cell? ⟨b, off + j * 5 + 1, none⟩ = some (.int .i64 (l.getD j default).at1) := (HS7.out.cellT hjl (by omega)).1; have r2 : wr.cell? ⟨w2.heap.size, j * 5 + 1, none⟩ = some (.int .i64 (l2.getD j default).at1) := by
           have h := (HM7.out.cellT (i := j) (j := 1) (by omega) (by omega)).1; rw [Nat.zero_add] at h; exact h
          have hgw : w2.heap.size < wr.heap.size := (HM7.out.cellT (i := 0) (j := 0) (by omega) (by omega)).2; have hjp : ((l.getD j default).at1 ≠ at1 ∨ (l2.getD j default).at1 ≠ at2) → j + 1 ≤ p := fun h => by
           rcases Nat.lt_or_ge j p with h3 | h3
           · exact h3
           · obtain rfl : j = p := by omega
             rcases h with h | h
             · exact absurd HAT.out h
             · exact absurd HAT2.out h
          have HJP := qd hjp; clear hjp; generalize (l.getD j default).at1 = y1 at *; generalize (l2.getD j default).at1 = y2 at *
          by_cases e1 : y1 = at1
          · by_cases e2 : y2 = at2
            · subst e1; subst e2; go_wp2_with fail; go_ret; exact ⟨rfl, HB7.out⟩
            · have hj1 := HJP.out (.inr e2); have e2' : (y2 == at2) = false := by simpa using e2
              have E2 := qd e2; clear e2; subst e1; go_wp2_with fail; go_roundw
              case rel => exact ⟨j + 1, hj1, by go_num, by first | rfl | trivial⟩
              case measure => simp [intOf]; omega
          · have hj1 := HJP.out (.inl e1); have e1' : (y1 == at1) = false := by simpa using e1
            have E1 := qd e1; clear e1; go_wp2_with fail; go_roundw
            case rel => exact ⟨j + 1, hj1, by go_num, by first | rfl | trivial⟩
            case measure => simp [intOf]; omega
      | ok x s' =>
       obtain ⟨E1, v1, T1, _, _, rfl, hT1, hO1, hK1, _, hB5⟩ := h5; have t1 := gD hO1 hK1; obtain ⟨aa1, ca1, rfl⟩ := hO1.slice; have HS5 := qd (HSr.out.keep hB5); have HM5 := qd (hs2.keep hB5); have HG5 := qd (HGr.out.keep hB5); have HB5 := qd (HBw.out.trans (hB5.mono HBw.out.size)); have HT1 := qd hT1; have TT1 := qd t1; clear hB5 hs2 hT1 t1 hO1 hK1; go_wp2_with fail; refine (fd l2 _ _ HM5.out (jG HK.out.symm HRF.out) (by omega) (lv HK.out.symm HT.out) HG5.out (.ok x s') (by rw [HK.out, hl2]; exact HRp.out)).mono ?_; rintro e w6 ⟨E2, v2, T2, _, _, rfl, hT2, hO2, hK2, _, hB6⟩; have t2 := gD hO2 hK2; obtain ⟨aa2, ca2, rfl⟩ := hO2.slice; have TT2 := qd (TT1.out.keep hB6); have TT3 := qd t2; have HB6 := qd (HB5.out.trans (hB6.mono HB5.out.size)); have HT2 := qd (HT1.out.trans hT2.symm); clear hB6 t2 hT2 hO2 hK2; go_wp2_with fail; refine (ix E1 E2 T1 T2 _ _ _ TT2.out TT3.out HT2.out).mono ?_; rintro e w7 ⟨rfl, hB7⟩; have HB7 := qd (HB6.out.trans (hB7.mono HB6.out.size)); clear hB7; go_wp2_with fail; go_ret; exact ⟨rfl, HB7.out⟩
 · have he' : (er != 0) = true := by simpa using he
   have HE := qd he; clear he; go_wp2_with fail; go_ret; exact ⟨rfl, HB2.out⟩
end Go.Proofs.YthkebhjaaikopaaGreatDoor

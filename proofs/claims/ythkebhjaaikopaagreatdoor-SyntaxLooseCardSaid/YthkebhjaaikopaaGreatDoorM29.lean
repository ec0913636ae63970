/- Part of the proof of SyntaxLooseCardSaid (KS). -/
import Derived.Test.YthkebhjaaikopaaGreatDoorM28
import Derived.Test.YthkebhjaaikopaaGreatDoorM03
set_option maxHeartbeats 8000000
set_option linter.unusedSimpArgs false
set_option linter.unusedVariables false
namespace Go.Proofs.YthkebhjaaikopaaGreatDoor
open Go.ChangeShapes Go.WideShapes Go.ChangeAt Go.RowKit Go.Deep Go.Joins Go.Instr
theorem iz (v : Value) (l : List ay) (w : World) (hs : Sl w 5 ay.enc v l) :
 Calls Tryz.prog 25 #[v] w fun e w' => (∃ b, e = .returned (.bool b)) ∧ Below w.heap.size w w' := by
 obtain ⟨aa, ca, rfl, ma, HA⟩ := aV hs; clear hs; go_enter Tryz.func25, Tryz.ntmps25; go_wp2
 go_loopw [3] (fun i wr => ∃ k : Nat, k ≤ l.length ∧ i = .int .i64 k ∧ Below w.heap.size w wr) (fun i _ => l.length - (intOf i).toNat)
 case atStart => exact ⟨0, Nat.zero_le _, rfl, Below.refl _ _⟩
 case round =>
  obtain ⟨k, hk, rfl, hB⟩ := hrel
  by_cases hlt : k < l.length
  · obtain ⟨b, o, rfl, hb, hc⟩ := HA.out (by omega); have c0 := (hB.cell (p := ⟨b, o + k * 5 + 0, none⟩) hb).trans (hc k hlt 0 (by omega)); simp only [ay.enc, Nat.add_zero] at c0; clear hc; generalize (l.getD k default).kind = x at *
    by_cases h0 : x = 0
    · subst h0
      by_cases h1 : k + 1 = l.length
      · have e1 : ((k : Int) == (l.length : Int) - 1) = true := by rw [beq_iff_eq]; omega
        have H1 := qd h1; clear h1; go_wp2; go_roundw
        case rel => exact ⟨k + 1, by omega, by go_num, by go_grown⟩
        case measure => simp [intOf]; omega
      · have e1 : ((k : Int) == (l.length : Int) - 1) = false := by rw [beq_eq_false_iff_ne]; omega
        go_wp2; go_ret; exact ⟨⟨_, rfl⟩, by go_grown⟩
    · have h0' : (x == 0) = false := by rw [beq_eq_false_iff_ne]; exact h0
      by_cases h1 : k + 1 = l.length
      · have e1 : ((k : Int) == (l.length : Int) - 1) = true := by rw [beq_iff_eq]; omega
        have H1 := qd h1; clear h1; go_wp2; go_ret; exact ⟨⟨_, rfl⟩, by go_grown⟩
      · have e1 : ((k : Int) == (l.length : Int) - 1) = false := by rw [beq_eq_false_iff_ne]; omega
        go_wp2; go_roundw
        case rel => exact ⟨k + 1, by omega, by go_num, by go_grown⟩
        case measure => simp [intOf]; omega
  · obtain rfl : k = l.length := by omega
    go_wp2; go_ret; exact ⟨⟨_, rfl⟩, by go_grown⟩
theorem t6 {Γ : Gh} {w : World} {v : Value} {n : Nat} (hG : aD Γ w) (h : Rw Γ .tok v n) : ∃ l, Ow w 0 31 5 ay.enc v l ∧ l.length = n ∧ ∀ i, i < l.length → dt (l.getD i default) := by
 obtain ⟨l, h1, h2, h3⟩ := h.view.toks hG; refine ⟨l, ⟨by rw [cN], ?_⟩, h2, h3⟩; rcases h with ⟨rfl, h0⟩ | ⟨g, cap, m, rfl, hg, hm, hnc, hcm⟩
 · exact .inl ⟨rfl, by omega⟩
 · obtain ⟨cur, g1, g2, g3, g4, g5⟩ := hG g _ _ _ hg; have g2' : cur.size = cap * 5 := g2; refine .inr ⟨g, cap, cur, by rw [h2], Nat.zero_le _, g1, by omega, hcm, g2', ?_⟩; apply List.ext_getElem?; intro k; rw [List.getElem?_take]
   by_cases hk : k < l.length * 5
   · rw [if_pos hk]; obtain ⟨a1, a2, a3⟩ := lz (by decide : 0 < 5) hk; have e1 := ee 5 ay.enc l (k / 5) (k % 5) a1 a2; rw [a3] at e1; rw [e1]; obtain ⟨ad, c2, e, _, _, hc⟩ := h1; obtain ⟨b, off, e2, _, hc⟩ := hc (by omega); simp only [Value.slice.injEq] at e; rw [← e.1] at e2; simp only [Option.some.injEq, Addr.mk.injEq, and_true] at e2; obtain ⟨rfl, rfl⟩ := e2; have h4 := hc (k / 5) a1 (k % 5) a2; rw [cell_of_row w g _ cur _ _ g1, Nat.zero_add, a3] at h4; simpa using h4
   · rw [if_neg hk, List.getElem?_eq_none (by rw [cN]; omega)]
def rz (Γ : Gh) (w : World) (t : ay) (r : Ending) (w' : World) : Prop := ∃ v e a, r = .returned (.tuple #[v, .int .i64 e, .int .i64 a]) ∧ am (fun k => Γ k ≠ none) w w' ∧ (e = 0 → ∃ l : List ay, Sl w' 5 ay.enc v (l ++ [t]) ∧ (∀ g, v.ownBlock = some g → g < w'.heap.size) ∧ l.length ≤ 8192 ∧ ∀ i, i < l.length → dt (l.getD i default))
theorem ij {Γ : Gh} {wb : Nat} (t : ay) (w : World) (h : In Γ w wb) :
 Calls Tryz.prog 40 #[.pointer (some ⟨wb, 0, none⟩), t.val] w (rz Γ w t) := by
 obtain ⟨inl, ma, mn, mc, ca, cn, cc, u, oa, on, oc, e, at1, hf⟩ := h.fields; have c4 := hf.c4; have c5 := hf.c5; have c6 := hf.c6; have hwb := h.lt; have hol := hf.ole; have HO := qd hf.o; have H := qd h; obtain ⟨x, HX⟩ : ∃ x, Hid (t = x) := ⟨t, rfl⟩; rw [HX.out]; clear h hf; obtain ⟨x0, x1, x2, x3, x4⟩ := x; obtain ⟨PP, hPP⟩ : ∃ PP, PP = rz Γ w ⟨x0, x1, x2, x3, x4⟩ := ⟨_, rfl⟩; rw [← hPP]; have HPP := qd hPP; clear hPP; unfold ay.val
 by_cases he : e = 0
 · subst he; obtain ⟨l, hL, hll, hOK⟩ := t6 H.out.good HO.out; have HOK := qd hOK; have HG : Hid (∀ k, (Value.slice oa on oc).ownBlock = some k → Γ k ≠ none) := fun k hk => by
    rcases HO.out with ⟨e, _⟩ | ⟨g, cap, m, e, h2, _⟩
    · rw [e] at hk; cases hk
    · rw [e] at hk; simp only [Value.ownBlock, Option.some.injEq] at hk; rw [← hk, h2]; simp
   obtain ⟨q, hq⟩ : ∃ q, q = l.length := ⟨_, rfl⟩; rw [← hll] at hol c4 HG hL; have HLn := qd hll; clear hll hOK hq HO; go_enter Tryz.func40, Tryz.ntmps40
   go_upto_region 3 with fail
   generalize hW1 : World.alloc w _ = w1; have HB1 : Hid (Below w.heap.size w w1) := by rw [← hW1]; exact br.alloc (Nat.le_refl _) _
   have k1 : w1.heap[w.heap.size]? = some (.cells #[.int .i64 x0, .int .i64 x1, .int .i64 x2, .string x3, .int .i64 x4] 31 (0, 0)) := by rw [← hW1]; exact al w _
   have c41 := (HB1.out.cell (p := ⟨wb, 4, none⟩) hwb).trans c4; have HL1 : Hid (Ow w1 0 31 5 ay.enc (.slice oa l.length oc) l) := cw hL HB1.out; clear hW1 c4 c5 c6 hL; obtain ⟨d0, d1, d2, d3, d4⟩ := cF k1; have hs1 := af k1; have hw1 : wb < w1.heap.size := by have := HB1.out.size; omega
   clear k1; have HE5 : Hid ((#[Value.int .i64 x0, .int .i64 x1, .int .i64 x2, .string x3, .int .i64 x4] : Array Value).toList = (List.range 5).map (ay.enc ⟨x0, x1, x2, x3, x4⟩)) := rfl; have HY1 : Hid (∀ u ∈ (#[Value.int .i64 x0, .int .i64 x1, .int .i64 x2, .string x3, .int .i64 x4] : Array Value).toList, u.oneCell' = true) := by
    intro u hu; simp at hu; rcases hu with rfl | rfl | rfl | rfl | rfl <;> rfl
   go_region_law ((refine bu aX rfl (.tmp 23) (.tmp 25) rfl 0 ay.enc (.slice oa l.length oc) l rfl (HL1.out.alloc _) w1.heap.size ⟨x0, x1, x2, x3, x4⟩ #[.int .i64 x0, .int .i64 x1, .int .i64 x2, .string x3, .int .i64 x4] rfl (al _ _) HE5.out HY1.out (by omega) (by simp) ?_; intro g7 c7 w6 h1 h2 h3))
   all_goals
    have HS6 := qd (ek h1); have hlt6 : g7 < w6.heap.size := (h1.lt g7 rfl).2; have HO6 : Hid (am (fun k => Γ k ≠ none) w w6) := ((am.of_below HB1.out).trans (am.of_below (((Below.refl w1.heap.size w1).drew).alloc (Nat.le_refl _) (.cells #[.int .i64 x0, .int .i64 x1, .int .i64 x2, .string x3, .int .i64 x4] 31))) (fun k hk => .inl hk)).grown h2 (fun k hk => .inl (HG.out k hk)); clear h1 h2 h3; go_wp2_with fail; rw [HPP.out]; exact ⟨_, 0, 0, rfl, HO6.out, fun _ => ⟨l, HS6.out, fun g hg => by
     obtain rfl : g7 = g := by simpa [Value.ownBlock] using hg
     exact hlt6, hol, HOK.out⟩⟩
 · have he' : (e == 0) = false := by rw [beq_eq_false_iff_ne]; exact he
   have HE := qd he; clear he; go_enter Tryz.func40, Tryz.ntmps40; go_wp2_with fail; go_region
   all_goals
    go_wp2_with fail; rw [HPP.out]; exact ⟨_, _, _, rfl, am.of_below (by go_grown), fun h => absurd h HE.out⟩
end Go.Proofs.YthkebhjaaikopaaGreatDoor

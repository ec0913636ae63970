/- Part of the proof of SyntaxLooseCardSaid (KR). -/
import Derived.Test.YthkebhjaaikopaaGreatDoorM27
set_option maxHeartbeats 8000000
set_option linter.unusedSimpArgs false
set_option linter.unusedVariables false
namespace Go.Proofs.YthkebhjaaikopaaGreatDoor
open Go.ChangeShapes Go.WideShapes Go.ChangeAt Go.RowKit Go.Deep Go.Joins Go.Instr
theorem iA {Γ : Gh} {r : Rl} {w : World} {g n c lo m : Nat} (hG : aD Γ w) (hR : Rw Γ r (.slice (some ⟨g, 0, none⟩) n c) n) (h : lo + m ≤ n) : gO Γ r w (some ⟨g, lo * r.sz, none⟩) m := fun hm => by
 obtain ⟨k, h1, h2⟩ := kq hR; obtain ⟨cur, g1, g2, g3, g4, g5⟩ := hG g _ _ _ h1; refine ⟨g, lo * r.sz, rfl, fun i hi => ?_⟩; obtain ⟨f, f1, f2⟩ := g5 (lo + i) (by omega); refine ⟨f, f1, fun j hj => ?_⟩; rw [cell_of_row w g _ cur _ _ g1, ← f2 j hj, Nat.add_mul]
theorem lj {Γ : Gh} {w : World} (hG : aD Γ w) {r : Rl} {t : TypeId} (hT : lh t r.el r.sz) {ops : Array Oper} {rest : List Oper} {o : Oper} {a : Act} {Q : Exit → Act → World → Prop} (hgd : o.guard = none) (s x : Operand)
 (ho : o.op = .call { callee := .builtin .append, args := #[s, x], argTypes := #[t, t] }) (v : Value) (n : Nat) (hs : a.eval s = v) (hv : Rw Γ r v n) (ad : Addr) (c : Nat) (hx : a.eval x = .slice (some ad) 0 c)
 (h : wpList Tryz.prog ops Q rest (a.put o.dst v) w) : wpList Tryz.prog ops Q (o :: rest) a w := by
 refine wpList_plain hgd fun K hK => ?_
 obtain ⟨i, z, hi, hz, hs1, hz2, hby⟩ := hT.ex; have hr : (Builtin.append_ #[t, t] o.type #[v, .slice (some ad) 0 c]).run Tryz.prog w = .ok v w := by
  rcases hv with ⟨rfl, rfl⟩ | ⟨g, cap, m0, rfl, hg, hnm, hnc, hcm⟩
  · simp [Builtin.append_, run_underlying hT.und, Go.sizeOf, typeInfo, hi, Builtin.lenOf, Builtin.firstCells, loadCells, loadCellsFrom]
  · obtain ⟨cur, g1, g2, g3, g4, g5⟩ := hG g r m0 cap hg; have hmul : n * r.sz ≤ cap * r.sz := Nat.mul_le_mul_right _ hnc; have := run_append_room (P := Tryz.prog) w t o.type r.el i hT.und hi g n cap cur g1 ad 0 c [] (by simp) (fun j u hu => by simp at hu) (fun u hu => by simp at hu) (by omega) (by rw [hs1, g2]; simpa using hmul); have e : (cur.toList.take (n * i.size) ++ [] ++ cur.toList.drop (n * i.size + ([] : List Value).length)).toArray = cur := by simp
    rw [this, e, setRow_self w g cur r.el (0, 0) g1, Nat.add_zero]
 unfold Oper.wp execOp; simp only [ho, resolve, invoke, builtin, Sem.run_bind, Sem.run_pure, Result.andThen_ok, List.map_toArray, List.map_cons, List.map_nil, hs, hx, hr]; exact hK _ _ h
theorem Fx.tail1 {Γ : Gh} {w : World} {b off c : Nat} {l : List ay} (h : Fx Γ w (some ⟨b, off, none⟩) c l) (h0 : 0 < l.length) : Fx Γ w (if c = 1 then some ⟨b, off, none⟩ else some ⟨b, off + 5, none⟩) (c - 1) (l.drop 1) :=
 ⟨by have := h.cap; simp; omega, by have := h.max; omega, fun hl => by
  simp at hl; obtain ⟨b', off', e, hb, hn, hc⟩ := h.cell h0; obtain ⟨rfl, rfl⟩ : b = b' ∧ off = off' := by simpa using e
  have := h.cap; refine ⟨b, off + 5, if_neg (by omega), hb, hn, fun i hi j hj => ?_⟩; simp at hi; have h1 := hc (i + 1) (by omega) j hj; rw [show off + 5 + i * 5 + j = off + (i + 1) * 5 + j by omega, h1]; simp [List.getD_eq_getElem?_getD, Nat.add_comm], fun i hi => by
  simp at hi; have h1 := h.ok (i + 1) (by omega); simpa [List.getD_eq_getElem?_getD, Nat.add_comm] using h1⟩
set_option maxRecDepth 100000 in
theorem jp {Γ : Gh} {wb : Nat} (a : Option Addr) (c : Nat) (l : List ay) (at0 : Int) (w : World) (h : In Γ w wb) (hl : Fx Γ w a c l) (hn : l.length ≤ 999990) (ha : dC at0) :
 Calls Tryz.prog 38 #[.pointer (some ⟨wb, 0, none⟩), .slice a l.length c, .int .i64 at0] w (cC Γ w wb) := by
 have H := qd h; have HL := qd hl; obtain ⟨PP, hPP⟩ : ∃ PP, PP = cC Γ w wb := ⟨_, rfl⟩; rw [← hPP]; have HPP := qd hPP; have HST : Hid (∀ (Γ1 : Gh) (w1 w2 : World) (r : Ending), ai Γ w Γ1 w1 → cC Γ1 w1 wb r w2 → r = .returned (.tuple #[]) ∧ PP (.returned (.tuple #[])) w2) := fun Γ1 w1 w2 r h1 h2 => by
  obtain ⟨Γ2, e, h3, h4⟩ := h2; exact ⟨e, by rw [HPP.out]; exact ⟨Γ2, rfl, h3, h1.trans h4⟩⟩
 have HFL : Hid (∀ (Γ1 : Gh) (w1 : World) (x : Int), In Γ1 w1 wb → ai Γ w Γ1 w1 → dC x → x ≠ 0 → Calls Tryz.prog 39 #[.pointer (some ⟨wb, 0, none⟩), .int .i64 x, .int .i64 at0] w1 fun r w' => r = .returned (.tuple #[]) ∧ PP (.returned (.tuple #[])) w') := fun Γ1 w1 x h1 h2 h3 h4 => (aB x at0 w1 h1 h3 ha h4).mono fun r w' hr => ⟨hr.1, by rw [HPP.out]; exact cC.of_fails h2 ⟨rfl, hr.2⟩⟩
 have HOPEN : Hid (∀ (Γ1 : Gh) (w1 : World) (is : Bool), In Γ1 w1 wb → ai Γ w Γ1 w1 → Calls Tryz.prog 90 #[.pointer (some ⟨wb, 0, none⟩), .bool is, .int .i64 at0] w1 fun r w' => r = .returned (.tuple #[]) ∧ PP (.returned (.tuple #[])) w') := fun Γ1 w1 is h1 h2 => (iD is at0 w1 h1 ha).mono fun r w' hr => HST.out Γ1 w1 w' r h2 hr
 by_cases h0 : 0 < l.length
 · obtain ⟨b, off, t, rfl, hb, het, ht, d0, d1, d2, d3, d4⟩ := HL.out.tokAt (i := 0) h0; have HLTa : Hid (c = 1 → ∀ (Γ1 : Gh) (w1 : World), ai Γ w Γ1 w1 → Fx Γ1 w1 (some ⟨b, off, none⟩) 0 (l.drop 1)) := fun hc Γ1 w1 h1 => by
    have := (HL.out.turn h1).tail1 h0; rwa [if_pos hc, hc] at this
   have HLTb : Hid (¬ c = 1 → ∀ (Γ1 : Gh) (w1 : World), ai Γ w Γ1 w1 → Fx Γ1 w1 (some ⟨b, off + 5, none⟩) (c - 1) (l.drop 1)) := fun hc Γ1 w1 h1 => by
    have := (HL.out.turn h1).tail1 h0; rwa [if_neg hc] at this
   have hlen : (l.drop 1).length = l.length - 1 := by simp
   have HENDS : Hid (∀ (Γ1 : Gh) (w1 : World) (word : ByteArray) (la : Option Addr) (lc : Nat), In Γ1 w1 wb → ai Γ w Γ1 w1 → Calls Tryz.prog 89 #[.pointer (some ⟨wb, 0, none⟩), .string word, .slice la (l.length - 1) lc, .int .i64 at0] w1 fun r w' => r = .returned (.tuple #[]) ∧ PP (.returned (.tuple #[])) w') := fun Γ1 w1 word la lc h1 h2 => (rc word _ _ _ at0 w1 h1 ha).mono fun r w' hr => HST.out Γ1 w1 w' r h2 hr
   have HIFS : Hid (∀ (Γ1 : Gh) (w1 : World) (la : Option Addr) (lc : Nat), In Γ1 w1 wb → ai Γ w Γ1 w1 → Fx Γ1 w1 la lc (l.drop 1) → Calls Tryz.prog 91 #[.pointer (some ⟨wb, 0, none⟩), .slice la (l.length - 1) lc, .int .i64 at0] w1 fun r w' => r = .returned (.tuple #[]) ∧ PP (.returned (.tuple #[])) w') := fun Γ1 w1 la lc h1 h2 h3 => by
    have := sm la lc (l.drop 1) at0 w1 h1 h3 (by rw [hlen]; omega) ha; rw [hlen] at this; exact this.mono fun r w' hr => HST.out Γ1 w1 w' r h2 hr
   have HDEF : Hid (∀ (Γ1 : Gh) (w1 : World) (la : Option Addr) (lc : Nat), In Γ1 w1 wb → ai Γ w Γ1 w1 → Fx Γ1 w1 la lc (l.drop 1) → Calls Tryz.prog 94 #[.pointer (some ⟨wb, 0, none⟩), .slice la (l.length - 1) lc, .int .i64 at0] w1 fun r w' => r = .returned (.tuple #[]) ∧ PP (.returned (.tuple #[])) w') := fun Γ1 w1 la lc h1 h2 h3 => by
    have := nT la lc (l.drop 1) at0 w1 h1 h3 (by rw [hlen]; omega) ha; rw [hlen] at this; exact this.mono fun r w' hr => HST.out Γ1 w1 w' r h2 hr
   have HNAMED : Hid (∀ (Γ1 : Gh) (w1 : World) (la : Option Addr) (lc : Nat), In Γ1 w1 wb → ai Γ w Γ1 w1 → Fx Γ1 w1 la lc (l.drop 1) → Calls Tryz.prog 92 #[.slice la (l.length - 1) lc] w1 fun r w' => (∃ nb, r = .returned (.bool nb) ∧ (nb = true → l.length = 2)) ∧ Below w1.heap.size w1 w') := fun Γ1 w1 la lc h1 h2 h3 => by
    have := nr _ (l.drop 1) w1 h3.sl; rw [hlen] at this; refine this.mono fun r w' hr => ?_
    obtain ⟨⟨nb, e, h1⟩, h3⟩ := hr; exact ⟨⟨nb, e, fun h => by have := h1 h; omega⟩, h3⟩
   have hcl := hl.cap; have hl1 : (0 : Int) < (l.length : Int) := by omega
   have hl4 : (1 : Int) ≤ (l.length : Int) := by omega
   obtain ⟨t0, t1, t2, t3, t4⟩ := t; simp only [Nat.zero_mul, Nat.add_zero] at d0 d1 d2 d3 d4; clear h hl hPP ha het ht hlen
   by_cases hk : t0 = 1
   · have hk' : (t0 == 1) = true := by rw [beq_iff_eq]; exact hk
     clear hk
     by_cases hw_els : t3 = ⟨#[101, 108, 115, 101]⟩
     · subst hw_els; go_enter Tryz.func38, Tryz.ntmps38; go_wp2_with fail; refine (cm w H.out).mono ?_; rintro r w1 ⟨⟨kp, rfl⟩, h1⟩; have HI1 : Hid (In Γ w1 wb) := H.out.below h1; have HT1 : Hid (ai Γ w Γ w1) := ai.of_below h1; clear h1 d0 d1 d2 d3 d4; go_wp2_with fail
       all_goals
        refine (HENDS.out Γ w1 _ _ _ HI1.out HT1.out).mono ?_; rintro r w9 ⟨rfl, h9⟩; have H9 := qd h9; clear h9; go_wp2_with fail
        go_end0
        exact H9.out
     · have hq_els : (t3.toList == [101, 108, 115, 101]) = false := by rw [show ([101, 108, 115, 101] : List UInt8) = (⟨#[101, 108, 115, 101]⟩ : ByteArray).toList from by rw [ByteArray.toList_eq], ce]; simp [hw_els]
       clear hw_els
       by_cases hw_endif : t3 = ⟨#[101, 110, 100, 105, 102]⟩
       · subst hw_endif; go_enter Tryz.func38, Tryz.ntmps38; go_wp2_with fail; refine (cm w H.out).mono ?_; rintro r w1 ⟨⟨kp, rfl⟩, h1⟩; have HI1 : Hid (In Γ w1 wb) := H.out.below h1; have HT1 : Hid (ai Γ w Γ w1) := ai.of_below h1; clear h1 d0 d1 d2 d3 d4; go_wp2_with fail
         all_goals
          refine (HENDS.out Γ w1 _ _ _ HI1.out HT1.out).mono ?_; rintro r w9 ⟨rfl, h9⟩; have H9 := qd h9; clear h9; go_wp2_with fail
          go_end0
          exact H9.out
       · have hq_endif : (t3.toList == [101, 110, 100, 105, 102]) = false := by rw [show ([101, 110, 100, 105, 102] : List UInt8) = (⟨#[101, 110, 100, 105, 102]⟩ : ByteArray).toList from by rw [ByteArray.toList_eq], ce]; simp [hw_endif]
         clear hw_endif
         by_cases hw_iff : t3 = ⟨#[105, 102]⟩
         · subst hw_iff; go_enter Tryz.func38, Tryz.ntmps38; go_wp2_with fail; refine (cm w H.out).mono ?_; rintro r w1 ⟨⟨kp, rfl⟩, h1⟩; have HI1 : Hid (In Γ w1 wb) := H.out.below h1; have HT1 : Hid (ai Γ w Γ w1) := ai.of_below h1; clear h1 d0 d1 d2 d3 d4; cases kp with
           | false =>
             go_wp2_with fail; refine (HOPEN.out Γ w1 false HI1.out HT1.out).mono ?_; rintro r w9 ⟨rfl, h9⟩; have H9 := qd h9; clear h9; go_wp2_with fail
             go_end0
             exact H9.out
           | true =>
             go_wp2_with fail
             · refine (HIFS.out Γ w1 (some ⟨b, off, none⟩) 0 HI1.out HT1.out (HLTa.out (by assumption) Γ w1 HT1.out)).mono ?_; rintro r w9 ⟨rfl, h9⟩; have H9 := qd h9; clear h9; go_wp2_with fail
               go_end0
               exact H9.out
             · refine (HIFS.out Γ w1 (some ⟨b, off + 5, none⟩) (c - 1) HI1.out HT1.out (HLTb.out (by assumption) Γ w1 HT1.out)).mono ?_; rintro r w9 ⟨rfl, h9⟩; have H9 := qd h9; clear h9; go_wp2_with fail
               go_end0
               exact H9.out
         · have hq_iff : (t3.toList == [105, 102]) = false := by rw [show ([105, 102] : List UInt8) = (⟨#[105, 102]⟩ : ByteArray).toList from by rw [ByteArray.toList_eq], ce]; simp [hw_iff]
           clear hw_iff
           by_cases hw_ifdef : t3 = ⟨#[105, 102, 100, 101, 102]⟩
           · subst hw_ifdef; go_enter Tryz.func38, Tryz.ntmps38; go_wp2_with fail; refine (cm w H.out).mono ?_; rintro r w1 ⟨⟨kp, rfl⟩, h1⟩; have HI1 : Hid (In Γ w1 wb) := H.out.below h1; have HT1 : Hid (ai Γ w Γ w1) := ai.of_below h1; clear h1 d0 d1 d2 d3 d4; cases kp with
             | false =>
               go_wp2_with fail; refine (HOPEN.out Γ w1 false HI1.out HT1.out).mono ?_; rintro r w9 ⟨rfl, h9⟩; have H9 := qd h9; clear h9; go_wp2_with fail
               go_end0
               exact H9.out
             | true =>
               go_wp2_with fail
               · refine (HNAMED.out Γ w1 (some ⟨b, off, none⟩) 0 HI1.out HT1.out (HLTa.out (by assumption) Γ w1 HT1.out)).mono ?_; rintro r w2 ⟨⟨nb, rfl, hnb⟩, h2⟩; have HI2 : Hid (In Γ w2 wb) := HI1.out.below h2; have HT2 : Hid (ai Γ w Γ w2) := HT1.out.trans (ai.of_below h2); clear h2; cases nb with
                 | false =>
                   clear hnb; go_wp2_with fail; refine (HFL.out Γ w2 6 HI2.out HT2.out (by decide) (by decide)).mono ?_; rintro r w9 ⟨rfl, h9⟩; have H9 := qd h9; clear h9; go_wp2_with fail
                   go_end0
                   exact H9.out
                 | true =>
                   have hl2 : l.length = 2 := hnb (by first | trivial | rfl); have hc1 : c = 1 := by assumption
                   omega
               · refine (HNAMED.out Γ w1 (some ⟨b, off + 5, none⟩) (c - 1) HI1.out HT1.out (HLTb.out (by assumption) Γ w1 HT1.out)).mono ?_; rintro r w2 ⟨⟨nb, rfl, hnb⟩, h2⟩; have HI2 : Hid (In Γ w2 wb) := HI1.out.below h2; have HT2 : Hid (ai Γ w Γ w2) := HT1.out.trans (ai.of_below h2); clear h2; cases nb with
                 | false =>
                   clear hnb; go_wp2_with fail; refine (HFL.out Γ w2 6 HI2.out HT2.out (by decide) (by decide)).mono ?_; rintro r w9 ⟨rfl, h9⟩; have H9 := qd h9; clear h9; go_wp2_with fail
                   go_end0
                   exact H9.out
                 | true =>
                   have hl2 : l.length = 2 := hnb (by first | trivial | rfl); obtain ⟨b', off', t, hbe, hb2, het, ht, e0, e1, e2, e3, e4⟩ := (HL.out.turn HT2.out).tokAt (i := 1) (by omega); obtain ⟨rfl, rfl⟩ : b = b' ∧ off = off' := by simpa using hbe
                   obtain ⟨y0, y1, y2, y3, y4⟩ := t; simp only [Nat.one_mul] at e0 e1 e2 e3 e4; clear hbe het ht hnb; have hl3 : (1 : Int) < (l.length : Int) := by omega
                   have HL2 := qd hl2; clear hl2; obtain ⟨inl, ma, mn, mc, ca, cn, cc, u, oa9, on9, oc9, e9, at9, hf⟩ := HI2.out.fields; go_wp2_with fail; refine (cB y3 w2 HI2.out hf).mono ?_; rintro r w3 ⟨⟨q, rfl, hq1, hq2⟩, h3⟩; have HI3 : Hid (In Γ w3 wb) := HI2.out.below h3; have HT3 : Hid (ai Γ w Γ w3) := HT2.out.trans (ai.of_below h3); have HF3 := qd (hf.below h3); clear h3 hf e0 e1 e2 e3 e4; go_wp2_with fail; refine (HOPEN.out Γ w3 _ HI3.out HT3.out).mono ?_; rintro r w9 ⟨rfl, h9⟩; have H9 := qd h9; clear h9; go_wp2_with fail
                   go_end0
                   exact H9.out
           · have hq_ifdef : (t3.toList == [105, 102, 100, 101, 102]) = false := by rw [show ([105, 102, 100, 101, 102] : List UInt8) = (⟨#[105, 102, 100, 101, 102]⟩ : ByteArray).toList from by rw [ByteArray.toList_eq], ce]; simp [hw_ifdef]
             clear hw_ifdef
             by_cases hw_ifndef : t3 = ⟨#[105, 102, 110, 100, 101, 102]⟩
             · subst hw_ifndef; go_enter Tryz.func38, Tryz.ntmps38; go_wp2_with fail; refine (cm w H.out).mono ?_; rintro r w1 ⟨⟨kp, rfl⟩, h1⟩; have HI1 : Hid (In Γ w1 wb) := H.out.below h1; have HT1 : Hid (ai Γ w Γ w1) := ai.of_below h1; clear h1 d0 d1 d2 d3 d4; cases kp with
               | false =>
                 go_wp2_with fail; refine (HOPEN.out Γ w1 false HI1.out HT1.out).mono ?_; rintro r w9 ⟨rfl, h9⟩; have H9 := qd h9; clear h9; go_wp2_with fail
                 go_end0
                 exact H9.out
               | true =>
                 go_wp2_with fail
                 · refine (HNAMED.out Γ w1 (some ⟨b, off, none⟩) 0 HI1.out HT1.out (HLTa.out (by assumption) Γ w1 HT1.out)).mono ?_; rintro r w2 ⟨⟨nb, rfl, hnb⟩, h2⟩; have HI2 : Hid (In Γ w2 wb) := HI1.out.below h2; have HT2 : Hid (ai Γ w Γ w2) := HT1.out.trans (ai.of_below h2); clear h2; cases nb with
                   | false =>
                     clear hnb; go_wp2_with fail; refine (HFL.out Γ w2 6 HI2.out HT2.out (by decide) (by decide)).mono ?_; rintro r w9 ⟨rfl, h9⟩; have H9 := qd h9; clear h9; go_wp2_with fail
                     go_end0
                     exact H9.out
                   | true =>
                     have hl2 : l.length = 2 := hnb (by first | trivial | rfl); have hc1 : c = 1 := by assumption
                     omega
                 · refine (HNAMED.out Γ w1 (some ⟨b, off + 5, none⟩) (c - 1) HI1.out HT1.out (HLTb.out (by assumption) Γ w1 HT1.out)).mono ?_; rintro r w2 ⟨⟨nb, rfl, hnb⟩, h2⟩; have HI2 : Hid (In Γ w2 wb) := HI1.out.below h2; have HT2 : Hid (ai Γ w Γ w2) := HT1.out.trans (ai.of_below h2); clear h2; cases nb with
                   | false =>
                     clear hnb; go_wp2_with fail; refine (HFL.out Γ w2 6 HI2.out HT2.out (by decide) (by decide)).mono ?_; rintro r w9 ⟨rfl, h9⟩; have H9 := qd h9; clear h9; go_wp2_with fail
                     go_end0
                     exact H9.out
                   | true =>
                     have hl2 : l.length = 2 := hnb (by first | trivial | rfl); obtain ⟨b', off', t, hbe, hb2, het, ht, e0, e1, e2, e3, e4⟩ := (HL.out.turn HT2.out).tokAt (i := 1) (by omega); obtain ⟨rfl, rfl⟩ : b = b' ∧ off = off' := by simpa using hbe
                     obtain ⟨y0, y1, y2, y3, y4⟩ := t; simp only [Nat.one_mul] at e0 e1 e2 e3 e4; clear hbe het ht hnb; have hl3 : (1 : Int) < (l.length : Int) := by omega
                     have HL2 := qd hl2; clear hl2; obtain ⟨inl, ma, mn, mc, ca, cn, cc, u, oa9, on9, oc9, e9, at9, hf⟩ := HI2.out.fields; go_wp2_with fail; refine (cB y3 w2 HI2.out hf).mono ?_; rintro r w3 ⟨⟨q, rfl, hq1, hq2⟩, h3⟩; have HI3 : Hid (In Γ w3 wb) := HI2.out.below h3; have HT3 : Hid (ai Γ w Γ w3) := HT2.out.trans (ai.of_below h3); have HF3 := qd (hf.below h3); clear h3 hf e0 e1 e2 e3 e4; go_wp2_with fail; refine (HOPEN.out Γ w3 _ HI3.out HT3.out).mono ?_; rintro r w9 ⟨rfl, h9⟩; have H9 := qd h9; clear h9; go_wp2_with fail
                     go_end0
                     exact H9.out
             · have hq_ifndef : (t3.toList == [105, 102, 110, 100, 101, 102]) = false := by rw [show ([105, 102, 110, 100, 101, 102] : List UInt8) = (⟨#[105, 102, 110, 100, 101, 102]⟩ : ByteArray).toList from by rw [ByteArray.toList_eq], ce]; simp [hw_ifndef]
               clear hw_ifndef
               by_cases hw_define : t3 = ⟨#[100, 101, 102, 105, 110, 101]⟩
               · subst hw_define; go_enter Tryz.func38, Tryz.ntmps38; go_wp2_with fail; refine (cm w H.out).mono ?_; rintro r w1 ⟨⟨kp, rfl⟩, h1⟩; have HI1 : Hid (In Γ w1 wb) := H.out.below h1; have HT1 : Hid (ai Γ w Γ w1) := ai.of_below h1; clear h1 d0 d1 d2 d3 d4; cases kp with
                 | false =>
                   go_wp2_with fail
                   go_end0
                   rw [HPP.out]; exact ⟨Γ, rfl, HI1.out, HT1.out⟩
                 | true =>
                   go_wp2_with fail
                   · refine (HDEF.out Γ w1 (some ⟨b, off, none⟩) 0 HI1.out HT1.out (HLTa.out (by assumption) Γ w1 HT1.out)).mono ?_; rintro r w9 ⟨rfl, h9⟩; have H9 := qd h9; clear h9; go_wp2_with fail
                     go_end0
                     exact H9.out
                   · refine (HDEF.out Γ w1 (some ⟨b, off + 5, none⟩) (c - 1) HI1.out HT1.out (HLTb.out (by assumption) Γ w1 HT1.out)).mono ?_; rintro r w9 ⟨rfl, h9⟩; have H9 := qd h9; clear h9; go_wp2_with fail
                     go_end0
                     exact H9.out
               · have hq_define : (t3.toList == [100, 101, 102, 105, 110, 101]) = false := by rw [show ([100, 101, 102, 105, 110, 101] : List UInt8) = (⟨#[100, 101, 102, 105, 110, 101]⟩ : ByteArray).toList from by rw [ByteArray.toList_eq], ce]; simp [hw_define]
                 clear hw_define
                 by_cases hw_undef : t3 = ⟨#[117, 110, 100, 101, 102]⟩
                 · subst hw_undef; go_enter Tryz.func38, Tryz.ntmps38; go_wp2_with fail; refine (cm w H.out).mono ?_; rintro r w1 ⟨⟨kp, rfl⟩, h1⟩; have HI1 : Hid (In Γ w1 wb) := H.out.below h1; have HT1 : Hid (ai Γ w Γ w1) := ai.of_below h1; clear h1 d0 d1 d2 d3 d4; cases kp with
                   | false =>
                     go_wp2_with fail
                     go_end0
                     rw [HPP.out]; exact ⟨Γ, rfl, HI1.out, HT1.out⟩
                   | true =>
                     go_wp2_with fail
                     · refine (HNAMED.out Γ w1 (some ⟨b, off, none⟩) 0 HI1.out HT1.out (HLTa.out (by assumption) Γ w1 HT1.out)).mono ?_; rintro r w2 ⟨⟨nb, rfl, hnb⟩, h2⟩; have HI2 : Hid (In Γ w2 wb) := HI1.out.below h2; have HT2 : Hid (ai Γ w Γ w2) := HT1.out.trans (ai.of_below h2); clear h2; cases nb with
                       | false =>
                         clear hnb; go_wp2_with fail; refine (HFL.out Γ w2 6 HI2.out HT2.out (by decide) (by decide)).mono ?_; rintro r w9 ⟨rfl, h9⟩; have H9 := qd h9; clear h9; go_wp2_with fail
                         go_end0
                         exact H9.out
                       | true =>
                         have hl2 : l.length = 2 := hnb (by first | trivial | rfl); have hc1 : c = 1 := by assumption
                         omega
                     · refine (HNAMED.out Γ w1 (some ⟨b, off + 5, none⟩) (c - 1) HI1.out HT1.out (HLTb.out (by assumption) Γ w1 HT1.out)).mono ?_; rintro r w2 ⟨⟨nb, rfl, hnb⟩, h2⟩; have HI2 : Hid (In Γ w2 wb) := HI1.out.below h2; have HT2 : Hid (ai Γ w Γ w2) := HT1.out.trans (ai.of_below h2); clear h2; cases nb with
                       | false =>
                         clear hnb; go_wp2_with fail; refine (HFL.out Γ w2 6 HI2.out HT2.out (by decide) (by decide)).mono ?_; rintro r w9 ⟨rfl, h9⟩; have H9 := qd h9; clear h9; go_wp2_with fail
                         go_end0
                         exact H9.out
                       | true =>
                         have hl2 : l.length = 2 := hnb (by first | trivial | rfl); obtain ⟨b', off', t, hbe, hb2, het, ht, e0, e1, e2, e3, e4⟩ := (HL.out.turn HT2.out).tokAt (i := 1) (by omega); obtain ⟨rfl, rfl⟩ : b = b' ∧ off = off' := by simpa using hbe
                         obtain ⟨y0, y1, y2, y3, y4⟩ := t; simp only [Nat.one_mul] at e0 e1 e2 e3 e4; clear hbe het ht hnb; have hl3 : (1 : Int) < (l.length : Int) := by omega
                         have HL2 := qd hl2; clear hl2; obtain ⟨inl, ma, mn, mc, ca, cn, cc, u, oa9, on9, oc9, e9, at9, hf⟩ := HI2.out.fields; go_wp2_with fail; refine (cB y3 w2 HI2.out hf).mono ?_; rintro r w3 ⟨⟨q, rfl, hq1, hq2⟩, h3⟩; have HI3 : Hid (In Γ w3 wb) := HI2.out.below h3; have HT3 : Hid (ai Γ w Γ w3) := HT2.out.trans (ai.of_below h3); have HF3 := qd (hf.below h3); clear h3 hf e0 e1 e2 e3 e4
                         by_cases hq0 : q = -1
                         · subst hq0; go_wp2_with fail
                           go_end0
                           rw [HPP.out]; exact ⟨Γ, rfl, HI3.out, HT3.out⟩
                         · obtain ⟨p, rfl⟩ : ∃ p : Nat, q = p := ⟨q.toNat, by omega⟩; have hpm : p < mn := by omega
                           have hmle := HF3.out.mle; have HMR := qd HF3.out.m; obtain ⟨g, rfl⟩ := HMR.out.pos (by omega); have hmc : mn ≤ mc := by
                            rcases HMR.out with ⟨h, _⟩ | ⟨g', cap, m, e, h2, h3, h4, h5⟩
                            · cases h
                            · injection e with e1 e2 e3; omega
                           have c1 := HF3.out.c1; have f1 := HF3.out.free 1; have hw3 := HI3.out.lt; have hp1 : (p : Int) ≤ (mc : Int) := by omega
                           have hp2 : (p : Int) + 1 ≤ (mn : Int) := by omega
                           clear hq0 hq1 hq2
                           by_cases hp0 : p = 0
                           · subst hp0; have HR3 : Hid (Rw Γ .mac (.slice none 0 0) 0) := Rw.nil _ _
                             by_cases hz : mn = 1
                             · subst hz
                               by_cases hcm : mc = 1
                               all_goals
                                skip
                                have HI9 := qd (HI3.out.setM HR3.out (by omega)); have HT9 := qd (HT3.out.trans (ai.setCell (w := w3) HI3.out.ne 1 (.slice none 0 0))); go_wp2_with fail
                                go_end0
                                rw [HPP.out]; exact ⟨Γ, rfl, HI9.out, HT9.out⟩
                             · have hcm : ¬ (mc = 1) := by omega
                               have hz1 : ¬ (mn - (1) = 0) := by omega
                               have hz2 : ((0 : Int) + 1).toNat = 1 := by omega
                               go_upto_region 29 with fail
                               go_wp2_with (at_builtin; go_must (refine aA HI3.out.good iW rfl _ _ rfl (.slice none 0 0) 0 rfl HR3.out ⟨g, 4, none⟩ (mn - (1)) (mc - (1)) rfl (iA (lo := 1) HI3.out.good HMR.out (by omega)) (by omega) (by omega) ?_)); intro g8 c8 w8 Γ8 q1 q2 q3 _ _ _
                               try simp only [Nat.zero_add] at q3
                               have i8 := HI3.out.turn q1 q2; obtain ⟨inl8, ma8, mn8, mc8, ca8, cn8, cc8, u8, oa8, on8, oc8, e8, at8, hf8⟩ := i8.fields; have x8 := hf8.c1; have z8 := hf8.free 1; have hw8 := i8.lt; have HI9 := qd (i8.setM q3 (by omega)); have HT9 : Hid (∀ u, ai Γ w Γ8 (w8.setCell ⟨wb, 1, none⟩ u)) := fun u => (HT3.out.trans q2).trans (ai.setCell (w := w8) i8.ne 1 u)
                               clear q1 q2 q3 hf8 i8; go_wp2_with fail
                               go_end0
                               rw [HPP.out]; exact ⟨Γ8, rfl, HI9.out, HT9.out _⟩
                           · go_wp2_with (at_builtin; go_must (refine aA HI3.out.good iW rfl _ _ rfl (.slice none 0 0) 0 rfl (Rw.nil _ _) ⟨g, 0, none⟩ p mc rfl (by have := iA (lo := 0) (m := p) HI3.out.good HMR.out (by omega); simpa using this) (by omega) (by omega) ?_)); intro g6 c6 w6 Γ6 q1 q2 q3 q4 _ _; have HB6 : Hid (Below w3.heap.size w3 w6) := q4.below (Nat.le_refl _) (fun k hk => by simp [Value.ownBlock] at hk); have HI6 : Hid (In Γ6 w6 wb) := HI3.out.turn q1 q2; have HT6 : Hid (ai Γ w Γ6 w6) := HT3.out.trans q2; have HR6 : Hid (Rw Γ6 .mac (.slice (some ⟨g6, 0, none⟩) p c6) p) := by
                              first
                               | exact q3
                               | (have := q3; rwa [Nat.zero_add] at this)
                             have HMR6 := qd (HMR.out.le q2.le); have c16 := (HB6.out.cell (p := ⟨wb, 1, none⟩) hw3).trans c1; have f16 := HI6.out.good.free HI6.out.ne 1; have hw6 := HI6.out.lt; clear q1 q2 q3 q4 c1 f1 hw3
                             by_cases hz : mn = p + 1
                             · subst hz
                               by_cases hcm : mc = p + 1
                               all_goals
                                go_wp2_with (at_builtin; go_must (refine lj HI6.out.good iW rfl _ _ rfl (.slice (some ⟨g6, 0, none⟩) p c6) p rfl HR6.out _ _ rfl ?_)); have HI9 := qd (HI6.out.setM HR6.out (by omega)); have HT9 := qd (HT6.out.trans (ai.setCell (w := w6) HI6.out.ne 1 (.slice (some ⟨g6, 0, none⟩) p c6))); go_wp2_with fail
                                go_end0
                                rw [HPP.out]; exact ⟨Γ6, rfl, HI9.out, HT9.out⟩
                             · have hcm : ¬ (mc = p + 1) := by omega
                               have hz1 : ¬ (mn - (p + 1) = 0) := by omega
                               have hz2 : ((p : Int) + 1).toNat = p + 1 := by omega
                               skip
                               go_wp2_with (at_builtin; go_must (refine aA HI6.out.good iW rfl _ _ rfl (.slice (some ⟨g6, 0, none⟩) p c6) p rfl HR6.out ⟨g, (p + 1) * 4, none⟩ (mn - (p + 1)) (mc - (p + 1)) rfl (iA (lo := p + 1) HI6.out.good HMR6.out (by omega)) (by omega) (by omega) ?_)); intro g8 c8 w8 Γ8 q1 q2 q3 _ _ _
                               try simp only [Nat.zero_add] at q3
                               have i8 := HI6.out.turn q1 q2; obtain ⟨inl8, ma8, mn8, mc8, ca8, cn8, cc8, u8, oa8, on8, oc8, e8, at8, hf8⟩ := i8.fields; have x8 := hf8.c1; have z8 := hf8.free 1; have hw8 := i8.lt; have HI9 := qd (i8.setM q3 (by omega)); have HT9 : Hid (∀ u, ai Γ w Γ8 (w8.setCell ⟨wb, 1, none⟩ u)) := fun u => (HT6.out.trans q2).trans (ai.setCell (w := w8) i8.ne 1 u)
                               clear q1 q2 q3 hf8 i8; go_wp2_with fail
                               go_end0
                               rw [HPP.out]; exact ⟨Γ8, rfl, HI9.out, HT9.out _⟩
                 · have hq_undef : (t3.toList == [117, 110, 100, 101, 102]) = false := by rw [show ([117, 110, 100, 101, 102] : List UInt8) = (⟨#[117, 110, 100, 101, 102]⟩ : ByteArray).toList from by rw [ByteArray.toList_eq], ce]; simp [hw_undef]
                   clear hw_undef; go_enter Tryz.func38, Tryz.ntmps38; go_wp2_with fail; refine (cm w H.out).mono ?_; rintro r w1 ⟨⟨kp, rfl⟩, h1⟩; have HI1 : Hid (In Γ w1 wb) := H.out.below h1; have HT1 : Hid (ai Γ w Γ w1) := ai.of_below h1; clear h1 d0 d1 d2 d3 d4; cases kp with
                   | false =>
                     go_wp2_with fail
                     go_end0
                     rw [HPP.out]; exact ⟨Γ, rfl, HI1.out, HT1.out⟩
                   | true =>
                     go_wp2_with fail; refine (HFL.out Γ w1 6 HI1.out HT1.out (by decide) (by decide)).mono ?_; rintro r w9 ⟨rfl, h9⟩; have H9 := qd h9; clear h9; go_wp2_with fail
                     go_end0
                     exact H9.out
   · have hk' : (t0 == 1) = false := by rw [beq_eq_false_iff_ne]; exact hk
     go_enter Tryz.func38, Tryz.ntmps38; go_wp2_with fail; refine (cm w H.out).mono ?_; rintro r w1 ⟨⟨kp, rfl⟩, h1⟩; have HI1 : Hid (In Γ w1 wb) := H.out.below h1; have HT1 : Hid (ai Γ w Γ w1) := ai.of_below h1; clear h1 d0 d1 d2 d3 d4; cases kp with
     | false =>
       go_wp2_with fail
       go_end0
       rw [HPP.out]; exact ⟨Γ, rfl, HI1.out, HT1.out⟩
     | true =>
       go_wp2_with fail; refine (HFL.out Γ w1 6 HI1.out HT1.out (by decide) (by decide)).mono ?_; rintro r w9 ⟨rfl, h9⟩; have H9 := qd h9; clear h9; go_wp2_with fail
       go_end0
       exact H9.out
 · have hl1 : ¬ ((0 : Int) < (l.length : Int)) := by omega
   have hl2 : decide ((0 : Int) < (l.length : Int)) = false := decide_eq_false (by omega); clear h hl hPP ha; go_enter Tryz.func38, Tryz.ntmps38; go_wp2_with fail; refine (cm w H.out).mono ?_; rintro r w1 ⟨⟨kp, rfl⟩, h1⟩; have HI1 : Hid (In Γ w1 wb) := H.out.below h1; have HT1 : Hid (ai Γ w Γ w1) := ai.of_below h1; clear h1; cases kp with
   | false =>
     go_wp2_with fail
     go_end0
     rw [HPP.out]; exact ⟨Γ, rfl, HI1.out, HT1.out⟩
   | true =>
     go_wp2_with fail; refine (HFL.out Γ w1 6 HI1.out HT1.out (by decide) (by decide)).mono ?_; rintro r w9 ⟨rfl, h9⟩; have H9 := qd h9; clear h9; go_wp2_with fail
     go_end0
     exact H9.out
end Go.Proofs.YthkebhjaaikopaaGreatDoor

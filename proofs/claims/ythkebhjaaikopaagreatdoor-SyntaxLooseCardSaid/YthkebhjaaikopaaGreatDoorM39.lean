/- Part of the proof of SyntaxLooseCardSaid (PBx PDx). -/
import Derived.Test.YthkebhjaaikopaaGreatDoorM05
import Derived.Outline
import Derived.OwnWalk
import Derived.Laws.AppendOwnNone
import Derived.WalkSpells
set_option maxHeartbeats 8000000
namespace Go.Proofs.YthkebhjaaikopaaGreatDoor.Px
open Go.ChangeShapes Go.WideShapes Go.ChangeAt Go.RowKit Go.Deep Go.Joins
theorem dV (x s : ByteArray) : (x.toList == s.toList) = decide (x = s) := by
  rw [Bool.eq_iff_iff, beq_iff_eq, decide_eq_true_iff, ByteArray.toList_eq, ByteArray.toList_eq]; exact ⟨fun h => ByteArray.ext (Array.toList_inj.1 h), fun h => by rw [h]⟩
def eK (k : Int) (t : ay) (s : ByteArray) : Bool := decide (t.kind = k) && decide (t.text = s)
theorem qJ (t : ay) (s : ByteArray) (w : World) :
    Calls Tryz.prog 74 #[t.val, .string s] w fun e w' => e = .returned (.bool (eK 4 t s)) ∧ Below w.heap.size w w' := by
  unfold ay.val eK; obtain ⟨k, a, l, x, n⟩ := t
  by_cases h1 : k = 4
  · by_cases h2 : x = s
    · subst h1; subst h2; go_enter Tryz.func74, Tryz.ntmps74; go_wp2; go_ret; exact ⟨cD (by simp), by go_grown⟩
    · subst h1; go_enter Tryz.func74, Tryz.ntmps74; go_wp2; go_ret; exact ⟨cD (by rw [dV]; simp [h2]), by go_grown⟩
  · go_enter Tryz.func74, Tryz.ntmps74; go_wp2; go_ret; exact ⟨cD (by simp [h1]), by go_grown⟩
theorem p6 (t : ay) (s : ByteArray) (w : World) :
    Calls Tryz.prog 80 #[t.val, .string s] w fun e w' => e = .returned (.bool (eK 1 t s)) ∧ Below w.heap.size w w' := by
  unfold ay.val eK; obtain ⟨k, a, l, x, n⟩ := t
  by_cases h1 : k = 1
  · by_cases h2 : x = s
    · subst h1; subst h2; go_enter Tryz.func80, Tryz.ntmps80; go_wp2; go_ret; exact ⟨cD (by simp), by go_grown⟩
    · subst h1; go_enter Tryz.func80, Tryz.ntmps80; go_wp2; go_ret; exact ⟨cD (by rw [dV]; simp [h2]), by go_grown⟩
  · go_enter Tryz.func80, Tryz.ntmps80; go_wp2; go_ret; exact ⟨cD (by simp [h1]), by go_grown⟩
def mQ (x : ay) : List Value := [.int .i64 x.kind, .int .i64 x.at1, .int .i64 x.line, .string x.text, .int .i64 x.n]
def fl (l : List ay) : List Value := l.flatMap mQ
theorem nM (a b : List ay) : fl (a ++ b) = fl a ++ fl b := by simp [fl]
theorem iQ (l : List ay) : (fl l).length = l.length * 5 := by
  induction l with
  | nil => rfl
  | cons x l ih =>
    show ((mQ x) ++ fl l).length = _; rw [List.length_append, ih, List.length_cons]; show 5 + _ = _; omega
theorem tL (x : ay) (j : Nat) (h : j < 5) : (mQ x)[j]? = some (x.enc j) := by
  match j, h with
  | 0, _ => rfl
  | 1, _ => rfl
  | 2, _ => rfl
  | 3, _ => rfl
  | 4, _ => rfl
  | _ + 5, h => exact absurd h (by omega)
theorem ra : ∀ (l : List ay) (i j : Nat), i < l.length → j < 5 → (fl l)[i * 5 + j]? = some ((l.getD i default).enc j)
  | x :: l, 0, j, _, hj => by
    show ((mQ x) ++ fl l)[0 * 5 + j]? = _; rw [List.getElem?_append_left (by show _ < 5; omega), Nat.zero_mul, Nat.zero_add, tL x j hj]; rfl
  | x :: l, i + 1, j, hi, hj => by
    show ((mQ x) ++ fl l)[(i + 1) * 5 + j]? = _; rw [List.getElem?_append_right (by show 5 ≤ _; omega)]; have := ra l i j (by simpa using hi) hj; rw [show (i + 1) * 5 + j - (mQ x).length = i * 5 + j by show (i + 1) * 5 + j - 5 = _; omega, this]; rfl
theorem kO (l : List ay) : ∀ u ∈ fl l, u.oneCell' = true := by
  intro u hu; obtain ⟨x, _, h⟩ := List.mem_flatMap.1 hu; simp only [mQ, List.mem_cons, List.not_mem_nil, or_false] at h; rcases h with rfl | rfl | rfl | rfl | rfl <;> rfl
theorem oS (b o i : Nat) : (⟨b, o, none⟩ : Addr).add i = ⟨b, o + i, none⟩ := by
  unfold Addr.add; split <;> simp <;> omega
theorem fJ {w : World} {ad : Addr} {cap : Nat} {l : List ay} (h : Sl w 5 ay.enc (.slice (some ad) l.length cap) l) : ∀ j u, (fl l)[j]? = some u → w.cell? (ad.add j) = some u := by
  intro j u hu; have hj : j < l.length * 5 := by
    rw [← iQ]; exact (List.getElem?_eq_some_iff.1 hu).1
  obtain ⟨a, c, h1, _, _, h4⟩ := h; obtain ⟨b, off, e, _, hc⟩ := h4 (by omega); injection h1 with e1 e2 e3; subst e1; obtain rfl := Option.some.inj e; have hc' := hc (j / 5) (by omega) (j % 5) (Nat.mod_lt _ (by omega)); have hf := ra l (j / 5) (j % 5) (by omega) (Nat.mod_lt _ (by omega)); rw [show j / 5 * 5 + j % 5 = j by omega, hu] at hf; rw [oS, show off + j = off + j / 5 * 5 + j % 5 by omega, hc', ← hf]
theorem dc {w : World} {base : Nat} {e : TypeId} {v : Value} {n : Nat} {l : List ay} (h : w.ownsRow base e 5 v n (fl l)) : Sl w 5 ay.enc v l := by
  have hn : l.length = n := by have := h.1; rw [iQ] at this; omega
  have hc : ∀ g, v.ownBlock = some g → _ := fun g hg => h.cells hg
  have hlt := h.lt; rcases h.2 with ⟨rfl, h0⟩ | ⟨g, cap, cur, rfl, hb, hh, h1, h2, h3, h4⟩
  · have : l = [] := List.length_eq_zero_iff.1 (by omega); subst this; exact ⟨none, 0, rfl, Nat.le_refl _, by decide, fun h => absurd h (by simp)⟩
  · refine ⟨some ⟨g, 0, none⟩, cap, by rw [hn], by omega, h2, fun _ => ⟨g, 0, rfl, (hlt g rfl).2, fun i hi j hj => ?_⟩⟩; have := hc g rfl (i * 5 + j) ((l.getD i default).enc j) (ra l i j hi hj); rw [oS, ← Nat.add_assoc] at this; exact this
theorem Tryz.info31 : (Tryz.prog.info? 31).map (fun i => (i.zero, i.size, i.bytes)) = some (some (.agg #[.int .i64 0, .int .i64 0, .int .i64 0, .string ByteArray.empty, .int .i64 0]), 5, 48) := by kernel_rfl
theorem cd {w : World} {ops : Array Oper} {rest : List Oper} {o : Oper} {a : Act} {Q : Exit → Act → World → Prop} (hgd : o.guard = none) (s x : Operand)
    (ho : o.op = .call { callee := .builtin .append, args := #[s, x], argTypes := #[22, 22] })
    (base : Nat) (v : Value) (n : Nat) (l1 : List ay) (hs : a.eval s = v) (hown : w.ownsRow base 31 5 v n (fl l1))
    (v2 : Value) (l2 : List ay) (hx : a.eval x = v2) (hsl : Sl w 5 ay.enc v2 l2) (hn : Sn v2)
    (h63 : n + l2.length ≤ 1000000000) (hbase : base ≤ w.heap.size)
    (h : ∀ v' w', w'.ownsRow base 31 5 v' (n + l2.length) (fl (l1 ++ l2)) → w.grownBy w' v.ownBlock → wpList Tryz.prog ops Q rest (a.put o.dst v') w') : wpList Tryz.prog ops Q (o :: rest) a w := by
  obtain ⟨i0, hi, hz0, hz1, hz2⟩ := info_parts Tryz.info31; have hsl' := hsl; obtain ⟨a2, cap, rfl, hc, hm, hcell⟩ := hsl; cases a2 with
  | none =>
    have hl : l2 = [] := by
      cases l2 with
      | nil => rfl
      | cons y r =>
        obtain ⟨b, off, h2, -⟩ := hcell (by simp); simp at h2
    subst hl; obtain rfl : cap = 0 := hn _ _ rfl; refine wpList_append_own_none hgd s x 22 ho base 31 i0 5 Tryz.underlying22 hi v n (fl l1) hs hown hx ?_; have h2 := h v w; simp only [List.append_nil, List.length_nil, Nat.add_zero] at h2; exact h2 hown ⟨rfl, rfl, rfl, Nat.le_refl _, fun _ _ _ => rfl⟩
  | some ad =>
    refine wpList_append_own w hgd s x 22 ho base 31 i0 _ 5 48 Tryz.underlying22 hi hz0 hz1 hz2 rfl (by omega) v n (fl l1) hs hown ad l2.length cap (fl l2) hx (iQ _) (fJ hsl') (kO _) (by unfold maxLen; omega) (by omega) hbase fun v' w' h2 h3 _ => h v' w' (by rw [nM]; exact h2) h3
theorem dG (v : Value) (l : List ay) (w : World) (hs : Sl w 5 ay.enc v l) (h0 : 0 < l.length) (hl : l.length ≤ 1000000) :
    Calls Tryz.prog 19 #[v] w fun e w' => ∃ v', e = .returned v' ∧ w'.ownsRow w.heap.size 31 5 v' l.length (fl l) ∧ Below w.heap.size w w' := by
  have hs' := hs; obtain ⟨aa, ca, rfl, ma, HA⟩ := aV hs; obtain ⟨b, off, rfl, hb, -⟩ := HA.out h0; clear hs HA; have q22 : ∀ (w : World) (a : Option Addr) (n c n' c' : Nat), (binOp .eql 22 (.slice a n c) (.slice none n' c')).run Tryz.prog w = .ok (.bool a.isNone) w := fun w a n c n' c' => Lib.run_eql_slice_nil w _ _ a n c n' c' Tryz.underlying22
  have HS := qd hs'; clear hs'; go_enter Tryz.func19, Tryz.ntmps19; go_wp2_with (at_builtin; refine cd rfl _ _ rfl w.heap.size _ 0 [] rfl (World.ownsRow_made w #[] 0 (Nat.le_refl _) (Nat.zero_le _) rfl) (.slice (some ⟨b, off, none⟩) l.length ca) l rfl (HS.out.keep (br.alloc (Nat.le_refl _) _)) (fun n c h => by simp at h) (by omega) (by simp) ?_); intro v' w1 hown hgrow; have HO := qd (show w1.ownsRow w.heap.size 31 5 v' l.length (fl l) by simpa using hown); have hB : Below w.heap.size w w1 := ((Below.refl _ w).alloc (Nat.le_refl _) _).grown hgrow (by simp) (by intro k hk; simp [Value.ownBlock] at hk; omega); clear hown hgrow; go_wp2; go_ret; exact ⟨v', rfl, HO.out, hB⟩
theorem kS (t : ay) (w : World) : Calls Tryz.prog 126 #[t.val] w fun e w' => e = .returned (.bool (decide (t.kind = 0))) ∧ Below w.heap.size w w' := by
  unfold ay.val; obtain ⟨k, a, l, x, n⟩ := t
  by_cases h1 : k = 0
  · subst h1; go_enter Tryz.func126, Tryz.ntmps126; go_wp2; go_ret; exact ⟨cD (by simp), by go_grown⟩
  · go_enter Tryz.func126, Tryz.ntmps126; go_wp2; go_ret; exact ⟨cD (by simp [h1]), by go_grown⟩
theorem iV (t : ay) (w : World) (r : Bool) (h : Hid (decide (t.kind = 0) = r)) : Calls Tryz.prog 126 #[t.val] w fun e w' => e = .returned (.bool r) ∧ Below w.heap.size w w' := by
  have := kS t w; rwa [h.out] at this
theorem fg (v : Value) (l : List ay) (w : World) (hs : Sl w 5 ay.enc v l) (hr : bG l = true) :
    Calls Tryz.prog 16 #[v, .func (.func 126) #[] #[]] w fun e w' => e = .returned (.int .i64 ((l.length : Int) - 1)) ∧ Below w.heap.size w w' := by
  unfold bG at hr; obtain ⟨h0, hr⟩ := of_decide_eq_true hr; obtain ⟨aa, ca, rfl, ma, HA⟩ := aV hs; clear hs; have HR := qd hr; clear hr; go_enter Tryz.func16, Tryz.ntmps16; go_wp2
  go_loopw [5, 8] (fun i5 i wr => ∃ k : Nat, k < l.length ∧ i = .int .i64 k ∧ Below w.heap.size w wr) (fun _ i _ => l.length - (intOf i).toNat)
  case atStart => exact ⟨0, h0, rfl, by go_grown⟩
  case round =>
    obtain ⟨k, hlt, rfl, hB⟩ := hrel; obtain ⟨b, o, rfl, hb, hc⟩ := HA.out (by omega); have c := cK (w := wr) (b := b) (off := o + k * 5) fun j hj => (hB.cell (p := ⟨b, o + k * 5 + j, none⟩) hb).trans (hc k hlt j hj)
    clear hc; have hx := HR.out k hlt; have HB := qd hB; have hsz := hB.size; clear hB; generalize l.getD k default = x at *; obtain ⟨c0, c1, c2, c3, c4⟩ := c
    by_cases hlast : k + 1 = l.length
    · have HK := qd (show decide (x.kind = 0) = true by simp [hx, hlast]); have HL := qd hlast; clear hx hlast; go_wp2_with (go_at_call 126; refine (iV x _ _ HK).mono ?_; rintro e w1 ⟨rfl, hw1⟩); have H1 : Hid (Below w.heap.size w w1) := HB.out.trans (hw1.mono (by omega)); clear hw1; go_ret; have : (k : Int) = (l.length : Int) - 1 := by have := HL.out; omega
      exact ⟨mY this, H1.out⟩
    · have HK := qd (show decide (x.kind = 0) = false by simp [hx, hlast]); clear hx; go_wp2_with (go_at_call 126; refine (iV x _ _ HK).mono ?_; rintro e w1 ⟨rfl, hw1⟩); have H1 : Hid (Below w.heap.size w w1) := HB.out.trans (hw1.mono (by omega)); clear hw1; go_roundw
      case rel => exact ⟨k + 1, by omega, by go_num, H1.out⟩
      case measure => simp [intOf]; omega
end Go.Proofs.YthkebhjaaikopaaGreatDoor.Px

/- Part of the proof of SyntaxLooseCardSaid (KC KD). -/
import Derived.Test.YthkebhjaaikopaaGreatDoorM18
import Derived.RegionTactic
import Derived.Deep.RegionLaw
import Derived.StillTailTactics
import Derived.WalkSmall
set_option maxHeartbeats 8000000
namespace Go.Proofs.YthkebhjaaikopaaGreatDoor
open Go.ChangeShapes Go.WideShapes Go.ChangeAt Go.RowKit Go.Deep Go.Joins Go.Instr
theorem oh {Γ : Gh} {w : World} (hG : aD Γ w) {r : Rl} {t : TypeId} (hT : lh t r.el r.sz) {o : Oper} {a : Act} {K : Act → World → Prop} {Q : Exit → Act → World → Prop} (s x : Operand)
 (ho : o.op = .call { callee := .builtin .append, args := #[s, x], argTypes := #[t, t] }) (v : Value) (n : Nat) (hs : a.eval s = v) (hv : Rw Γ r v n) (ad : Addr) (m c : Nat) (hx : a.eval x = .slice (some ad) m c) (hr : gO Γ r w (some ad) m) (hm : 0 < m) (hle : n + m ≤ 1000000000)
 (h : ∀ g cap w' Γ', aD Γ' w' → ai Γ w Γ' w' → Rw Γ' r (.slice (some ⟨g, 0, none⟩) (n + m) cap) (n + m) → am (fun k => v.ownBlock = some k ∧ Γ k ≠ none) w w' → Γ' g ≠ none → (∀ i j u, i < m → j < r.sz → w.cell? (ad.add (i * r.sz + j)) = some u → w'.cell? ⟨g, (n + i) * r.sz + j, none⟩ = some u) → K (a.put o.dst (.slice (some ⟨g, 0, none⟩) (n + m) cap)) w') : o.wp Tryz.prog a w K Q := by
 obtain ⟨g, cap, w', Γ', h1, h2, h3, h4, h5, h6, h7, h8⟩ := qo hG (ty := o.type) hT hv ad (c := c) hr hm hle; unfold Oper.wp execOp; simp only [ho, resolve, invoke, builtin, Sem.run_bind, Sem.run_pure, Result.andThen_ok, List.map_toArray, List.map_cons, List.map_nil, hs, hx, h1]; exact h g cap w' Γ' h2 h3 h4 h5 h7 h8
theorem aA {Γ : Gh} {w : World} (hG : aD Γ w) {r : Rl} {t : TypeId} (hT : lh t r.el r.sz) {ops : Array Oper} {rest : List Oper} {o : Oper} {a : Act} {Q : Exit → Act → World → Prop} (hgd : o.guard = none) (s x : Operand)
 (ho : o.op = .call { callee := .builtin .append, args := #[s, x], argTypes := #[t, t] }) (v : Value) (n : Nat) (hs : a.eval s = v) (hv : Rw Γ r v n) (ad : Addr) (m c : Nat) (hx : a.eval x = .slice (some ad) m c) (hr : gO Γ r w (some ad) m) (hm : 0 < m) (hle : n + m ≤ 1000000000)
 (h : ∀ g cap w' Γ', aD Γ' w' → ai Γ w Γ' w' → Rw Γ' r (.slice (some ⟨g, 0, none⟩) (n + m) cap) (n + m) → am (fun k => v.ownBlock = some k ∧ Γ k ≠ none) w w' → Γ' g ≠ none → (∀ i j u, i < m → j < r.sz → w.cell? (ad.add (i * r.sz + j)) = some u → w'.cell? ⟨g, (n + i) * r.sz + j, none⟩ = some u) → wpList Tryz.prog ops Q rest (a.put o.dst (.slice (some ⟨g, 0, none⟩) (n + m) cap)) w') : wpList Tryz.prog ops Q (o :: rest) a w :=
 wpList_plain hgd fun _ hK => oh hG hT s x ho v n hs hv ad m c hx hr hm hle fun g cap w' Γ' h2 h3 h4 h5 h7 h8 => hK _ _ (h g cap w' Γ' h2 h3 h4 h5 h7 h8)
theorem cu {Γ : Gh} {w : World} (hG : aD Γ w) {r : Rl} {t : TypeId} (hT : lh t r.el r.sz) {ops : Array Oper} {o : Oper} {a : Act} {K : Act → World → Prop} {Q : Exit → Act → World → Prop} {EE : Prop} (hgd : o.guard = none) (s x : Operand)
 (ho : o.op = .call { callee := .builtin .append, args := #[s, x], argTypes := #[t, t] }) (v : Value) (n : Nat) (hs : a.eval s = v) (hv : Rw Γ r v n) (ad : Addr) (m c : Nat) (hx : a.eval x = .slice (some ad) m c) (hr : gO Γ r w (some ad) m) (hm : 0 < m) (hle : n + m ≤ 1000000000)
 (h : ∀ g cap w' Γ', aD Γ' w' → ai Γ w Γ' w' → Rw Γ' r (.slice (some ⟨g, 0, none⟩) (n + m) cap) (n + m) → am (fun k => v.ownBlock = some k ∧ Γ k ≠ none) w w' → Γ' g ≠ none → (∀ i j u, i < m → j < r.sz → w.cell? (ad.add (i * r.sz + j)) = some u → w'.cell? ⟨g, (n + i) * r.sz + j, none⟩ = some u) → K (a.put o.dst (.slice (some ⟨g, 0, none⟩) (n + m) cap)) w') :
 if Region.wanted o (yielded ops a.tmps) = true then Oper.wp Tryz.prog o a w K Q else EE := by
 have hw : Region.wanted o (yielded ops a.tmps) = true := by simp [Region.wanted, hgd]
 rw [if_pos hw]; exact oh hG hT s x ho v n hs hv ad m c hx hr hm hle h
theorem aC {Γ : Gh} {r : Rl} {w : World} {b : Nat} {cs : Array Value} {E : TypeId} {fr : Nat × Nat} {f : Nat → Value} (hb : w.heap[b]? = some (.cells cs E fr)) (hf : cG Γ r f) (h : ∀ j, j < r.sz → cs[j]? = some (f j)) : gO Γ r w (some ⟨b, 0, none⟩) 1 := fun _ =>
 ⟨b, 0, rfl, fun i hi => ⟨f, hf, fun j hj => by
  obtain rfl : i = 0 := by omega
  rw [cell_of_row w b _ cs E fr hb]; simpa using h j hj⟩⟩
theorem ci.rows {Γ : Gh} {r : Rl} {w : World} (hG : aD Γ w) {ad : Option Addr} {n c : Nat} (hv : ci Γ r (.slice ad n c) n) : gO Γ r w ad n := fun hn => by
 obtain ⟨a, cap, e, _, _, h4⟩ := hv.cells hG; injection e with e1 _ _; obtain ⟨b, off, h1, _, _, h2⟩ := h4 hn; exact ⟨b, off, e1.trans h1, h2⟩
theorem aD.setCell {Γ : Gh} {w : World} (hG : aD Γ w) {b : Nat} {r : Rl} {m c i j o : Nat} (hb : Γ b = some (r, m, c)) (hi : i < m) (hj : j < r.sz) (ho : o = i * r.sz + j) {u : Value} (hu : ∀ f, cG Γ r f → (∀ k, k < r.sz → w.cell? ⟨b, i * r.sz + k, none⟩ = some (f k)) → cG Γ r (fun k => if k = j then u else f k)) : aD Γ (w.setCell ⟨b, o, none⟩ u) := fun k r' m' c' hk => by
 subst ho
 by_cases e : k = b
 · subst e; rw [hb] at hk; injection hk with hk; injection hk with k1 hk; injection hk with k2 k3; subst k1 k2 k3; obtain ⟨cur, g1, g2, g3, g4, g5⟩ := hG k r m c hb; refine ⟨cur.setIfInBounds (i * r.sz + j) u, heap_setCell_same w k _ cur _ u g1, by rw [Array.size_setIfInBounds, g2], g3, g4, fun i1 h1 => ?_⟩; obtain ⟨f, f1, f2⟩ := g5 i1 h1
   by_cases e2 : i1 = i
   · subst e2; refine ⟨_, hu f f1 (fun q hq => (cell_of_row w k _ cur _ _ g1).trans (f2 q hq)), fun q hq => ?_⟩; have hlt := d8 (Nat.lt_of_lt_of_le h1 g3) hq; rw [← g2] at hlt
     by_cases e3 : q = j
     · subst e3; rw [Array.getElem?_setIfInBounds_self_of_lt hlt]; simp
     · rw [Array.getElem?_setIfInBounds_ne (by omega), f2 q hq, if_neg e3]
   · refine ⟨f, f1, fun q hq => ?_⟩; rw [Array.getElem?_setIfInBounds_ne]
     · exact f2 q hq
     · intro h3; rcases Nat.lt_or_gt_of_ne e2 with h4 | h4
       · have h5 := d8 (Nat.lt_of_lt_of_le h4 (Nat.le_refl i)) hq; omega
       · have h5 := d8 (Nat.lt_of_lt_of_le h4 (Nat.le_refl i1)) hj; omega
 · obtain ⟨cur, g1, g2⟩ := hG k r' m' c' hk; exact ⟨cur, (Below.heap_setCell _ _ _ _ e).trans g1, g2⟩
theorem ai.setCell {Γ : Gh} {w : World} {b : Nat} (hb : Γ b ≠ none) (j : Nat) (u : Value) : ai Γ w Γ (w.setCell ⟨b, j, none⟩ u) := ⟨Gh.le.refl _, fun _ h => .inl h, (am.refl _ w).setCell (p := ⟨b, j, none⟩) (.inl hb) u⟩
structure In (Γ : Gh) (w : World) (wb : Nat) : Prop where
 good : aD Γ w
 at1 : Γ wb = some (.work, 1, 1)
theorem In.turn {Γ Γ' : Gh} {w w' : World} {wb : Nat} (h : In Γ w wb) (hG : aD Γ' w') (hT : ai Γ w Γ' w') : In Γ' w' wb := by
 refine ⟨hG, ?_⟩; obtain ⟨n, h1, h2⟩ := hT.le wb _ _ _ h.at1; obtain ⟨cur, g1, g2, g3, g4⟩ := hG wb _ _ _ h2; have : n = 1 := by omega
 rw [h2, this]
theorem In.ne {Γ : Gh} {w : World} {wb : Nat} (h : In Γ w wb) : Γ wb ≠ none := by rw [h.at1]; simp
theorem In.lt {Γ : Gh} {w : World} {wb : Nat} (h : In Γ w wb) : wb < w.heap.size := h.good.lt h.ne
theorem In.below {Γ : Gh} {w w' : World} {wb : Nat} (h : In Γ w wb) (hb : Below w.heap.size w w') : In Γ w' wb := ⟨h.good.below hb, h.at1⟩
theorem In.drew {Γ : Gh} {w : World} {wb : Nat} (h : In Γ w wb) : In Γ w.drew wb := h.below br.drew
structure bO (Γ : Gh) (w : World) (wb : Nat) (inl : Bool) (ma : Option Addr) (mn mc : Nat) (ca : Option Addr) (cn cc : Nat) (u : Int) (oa : Option Addr) (on oc : Nat) (e at1 : Int) : Prop where
 row : w.heap[wb]? = some (.cells #[.bool inl, .slice ma mn mc, .slice ca cn cc, .int .i64 u, .slice oa on oc, .int .i64 e, .int .i64 at1] 73 (0, 0))
 m : Rw Γ .mac (.slice ma mn mc) mn
 mle : mn ≤ 64
 c : Rw Γ .cond (.slice ca cn cc) cn
 cle : cn ≤ 16
 u : dC u
 o : Rw Γ .tok (.slice oa on oc) on
 ole : on ≤ 8192
 e : dC e
 a : dC at1
theorem In.fields {Γ : Gh} {w : World} {wb : Nat} (h : In Γ w wb) : ∃ inl ma mn mc ca cn cc u oa on oc e at1, bO Γ w wb inl ma mn mc ca cn cc u oa on oc e at1 := by
 obtain ⟨inl, mv, mn, cv, cn, u, ov, on, e, at1, h1, h2, h3, h4, h5, h6, h7, h8, h9, h10⟩ := mD h.good h.at1; obtain ⟨ma, mc, rfl⟩ := h2.slice; obtain ⟨ca, cc, rfl⟩ := h4.slice; obtain ⟨oa, oc, rfl⟩ := h7.slice; exact ⟨_, _, _, _, _, _, _, _, _, _, _, _, _, h1, h2, h3, h4, h5, h6, h7, h8, h9, h10⟩
section
variable {Γ : Gh} {w : World} {wb : Nat} {inl : Bool} {ma : Option Addr} {mn mc : Nat} {ca : Option Addr} {cn cc : Nat} {u : Int} {oa : Option Addr} {on oc : Nat} {e at1 : Int}
theorem bO.c0 (h : bO Γ w wb inl ma mn mc ca cn cc u oa on oc e at1) : w.cell? ⟨wb, 0, none⟩ = some (.bool inl) := (cell_of_row w wb 0 _ _ _ h.row).trans rfl
theorem bO.c1 (h : bO Γ w wb inl ma mn mc ca cn cc u oa on oc e at1) : w.cell? ⟨wb, 1, none⟩ = some (.slice ma mn mc) := (cell_of_row w wb 1 _ _ _ h.row).trans rfl
theorem bO.c2 (h : bO Γ w wb inl ma mn mc ca cn cc u oa on oc e at1) : w.cell? ⟨wb, 2, none⟩ = some (.slice ca cn cc) := (cell_of_row w wb 2 _ _ _ h.row).trans rfl
theorem bO.c3 (h : bO Γ w wb inl ma mn mc ca cn cc u oa on oc e at1) : w.cell? ⟨wb, 3, none⟩ = some (.int .i64 u) := (cell_of_row w wb 3 _ _ _ h.row).trans rfl
theorem bO.c4 (h : bO Γ w wb inl ma mn mc ca cn cc u oa on oc e at1) : w.cell? ⟨wb, 4, none⟩ = some (.slice oa on oc) := (cell_of_row w wb 4 _ _ _ h.row).trans rfl
theorem bO.c5 (h : bO Γ w wb inl ma mn mc ca cn cc u oa on oc e at1) : w.cell? ⟨wb, 5, none⟩ = some (.int .i64 e) := (cell_of_row w wb 5 _ _ _ h.row).trans rfl
theorem bO.c6 (h : bO Γ w wb inl ma mn mc ca cn cc u oa on oc e at1) : w.cell? ⟨wb, 6, none⟩ = some (.int .i64 at1) := (cell_of_row w wb 6 _ _ _ h.row).trans rfl
theorem bO.free (h : bO Γ w wb inl ma mn mc ca cn cc u oa on oc e at1) (j : Nat) : w.frozen? ⟨wb, j, none⟩ = false := frozen_of_row w wb j _ _ h.row
end
theorem In.setM {Γ : Gh} {w : World} {wb : Nat} (h : In Γ w wb) {v : Value} {n : Nat} (hv : Rw Γ .mac v n) (hn : n ≤ 64) : In Γ (w.setCell ⟨wb, 1, none⟩ v) wb :=
 ⟨h.good.setCell h.at1 (i := 0) (j := 1) (by omega) (by decide) (by decide) fun f hf _ => by
  obtain ⟨i, u, e, a, h0, h1, h2⟩ := hf; exact ⟨i, u, e, a, h0, ⟨n, hv, hn⟩, h2⟩, h.at1⟩
theorem In.setC {Γ : Gh} {w : World} {wb : Nat} (h : In Γ w wb) {v : Value} {n : Nat} (hv : Rw Γ .cond v n) (hn : n ≤ 16) : In Γ (w.setCell ⟨wb, 2, none⟩ v) wb :=
 ⟨h.good.setCell h.at1 (i := 0) (j := 2) (by omega) (by decide) (by decide) fun f hf _ => by
  obtain ⟨i, u, e, a, h0, h1, h2, h3⟩ := hf; exact ⟨i, u, e, a, h0, h1, ⟨n, hv, hn⟩, h3⟩, h.at1⟩
theorem In.setU {Γ : Gh} {w : World} {wb : Nat} (h : In Γ w wb) {x : Int} (hv : dC x) : In Γ (w.setCell ⟨wb, 3, none⟩ (.int .i64 x)) wb :=
 ⟨h.good.setCell h.at1 (i := 0) (j := 3) (by omega) (by decide) (by decide) fun f hf _ => by
  obtain ⟨i, u, e, a, h0, h1, h2, h3, h4, h5⟩ := hf; exact ⟨i, x, e, a, h0, h1, h2, rfl, hv, h5⟩, h.at1⟩
theorem In.setO {Γ : Gh} {w : World} {wb : Nat} (h : In Γ w wb) {v : Value} {n : Nat} (hv : Rw Γ .tok v n) (hn : n ≤ 8192) : In Γ (w.setCell ⟨wb, 4, none⟩ v) wb :=
 ⟨h.good.setCell h.at1 (i := 0) (j := 4) (by omega) (by decide) (by decide) fun f hf _ => by
  obtain ⟨i, u, e, a, h0, h1, h2, h3, h4, h5, h6⟩ := hf; exact ⟨i, u, e, a, h0, h1, h2, h3, h4, ⟨n, hv, hn⟩, h6⟩, h.at1⟩
theorem In.setE {Γ : Gh} {w : World} {wb : Nat} (h : In Γ w wb) {x : Int} (hv : dC x) : In Γ (w.setCell ⟨wb, 5, none⟩ (.int .i64 x)) wb :=
 ⟨h.good.setCell h.at1 (i := 0) (j := 5) (by omega) (by decide) (by decide) fun f hf _ => by
  obtain ⟨i, u, e, a, h0, h1, h2, h3, h4, h5, h6, h7, h8⟩ := hf; exact ⟨i, u, x, a, h0, h1, h2, h3, h4, h5, rfl, hv, h8⟩, h.at1⟩
theorem In.setA {Γ : Gh} {w : World} {wb : Nat} (h : In Γ w wb) {x : Int} (hv : dC x) : In Γ (w.setCell ⟨wb, 6, none⟩ (.int .i64 x)) wb :=
 ⟨h.good.setCell h.at1 (i := 0) (j := 6) (by omega) (by decide) (by decide) fun f hf _ => by
  obtain ⟨i, u, e, a, h0, h1, h2, h3, h4, h5, h6, h7, h8⟩ := hf; exact ⟨i, u, e, x, h0, h1, h2, h3, h4, h5, h6, h7, rfl, hv⟩, h.at1⟩
theorem aX : lh 22 (Rl.el .tok) (Rl.sz .tok) := eX Tryz.underlying22 (by kernel_rfl) (by decide)
theorem iW : lh 70 (Rl.el .mac) (Rl.sz .mac) := eX Tryz.underlying70 (by kernel_rfl) (by decide)
theorem sA : lh 71 (Rl.el .cond) (Rl.sz .cond) := eX Tryz.underlying71 (by kernel_rfl) (by decide)
theorem tJ : lh 53 (Rl.el .str) (Rl.sz .str) := eX Tryz.underlying53 (by kernel_rfl) (by decide)
theorem tK : lh 151 (Rl.el .row) (Rl.sz .row) := eX Tryz.underlying151 (by kernel_rfl) (by decide)
theorem ce (x s : ByteArray) : (x.toList == s.toList) = decide (x = s) := by
 rw [Bool.eq_iff_iff, beq_iff_eq, decide_eq_true_iff, ByteArray.toList_eq, ByteArray.toList_eq]; exact ⟨fun h => ByteArray.ext (Array.toList_inj.1 h), fun h => by rw [h]⟩
theorem bI (t : ay) (s : ByteArray) (w : World) :
 Calls Tryz.prog 35 #[t.val, .string s] w fun e w' => (∃ b, e = .returned (.bool b)) ∧ Below w.heap.size w w' := by
 unfold ay.val; obtain ⟨k, a, l, x, n⟩ := t
 by_cases h1 : k = 4
 · subst h1; go_enter Tryz.func35, Tryz.ntmps35; go_wp2; go_ret; exact ⟨⟨_, rfl⟩, by go_grown⟩
 · go_enter Tryz.func35, Tryz.ntmps35; go_wp2; go_ret; exact ⟨⟨_, rfl⟩, by go_grown⟩
def rH (w : World) (wb : Nat) : Prop := ∃ e, w.cell? ⟨wb, 5, none⟩ = some (.int .i64 e) ∧ e ≠ 0
theorem aB {Γ : Gh} {wb : Nat} (x a : Int) (w : World) (h : In Γ w wb) (hx : dC x) (ha : dC a) (h0 : x ≠ 0) :
 Calls Tryz.prog 39 #[.pointer (some ⟨wb, 0, none⟩), .int .i64 x, .int .i64 a] w fun r w' => r = .returned (.tuple #[]) ∧ In Γ w' wb ∧ ai Γ w Γ w' ∧ rH w' wb := by
 obtain ⟨inl, ma, mn, mc, ca, cn, cc, u, oa, on, oc, e, at1, hf⟩ := h.fields; have c5 := hf.c5; have c6 := hf.c6; have f5 := hf.free 5; have f6 := hf.free 6; have hlt := h.lt; have H := qd h; have HF := qd hf; clear h hf
 by_cases h5 : e = 0
 · subst h5; have hX := qd hx; have hA := qd ha; have h0' := qd h0; clear hx ha h0; go_enter Tryz.func39, Tryz.ntmps39; go_wp2
   go_end0
   have h1 := H.out.setE (x := x) hX.out; refine ⟨rfl, h1.setA (x := a) hA.out, (ai.setCell H.out.ne 5 _).trans (ai.setCell h1.ne 6 _), x, ?_, h0'.out⟩; rw [World.cell?_setCell_other _ _ _ _ (by simp), World.cell?_setCell_same _ _ _ c5]
 · have h0' := qd h5; have e1 : (e == 0) = false := by rw [beq_eq_false_iff_ne]; exact h5
   clear h5; go_enter Tryz.func39, Tryz.ntmps39; go_wp2
   go_end0
   exact ⟨rfl, H.out, ai.refl _ _, e, HF.out.c5, h0'.out⟩
def Bx (Γ : Gh) (w : World) (b : Nat) (o : Obj) : Prop := w.heap[b]? = some o ∧ Γ b = none
theorem Bx.turn {Γ Γ' : Gh} {w w' : World} {b : Nat} {o : Obj} (h : Bx Γ w b o) (ht : ai Γ w Γ' w') : Bx Γ' w' b o := by
 have hlt := af h.1; refine ⟨(ht.outs.block b hlt (fun e => e h.2)).trans h.1, ?_⟩; cases e : Γ' b with
 | none => rfl
 | some x =>
   rcases ht.new b (by rw [e]; simp) with h1 | h1
   · exact absurd h.2 h1
   · omega
theorem Bx.of_new {Γ : Gh} {w w' : World} {b : Nat} {o : Obj} (hG : aD Γ w) (hb : w.heap.size ≤ b) (h : w'.heap[b]? = some o) : Bx Γ w' b o := ⟨h, by
 cases e : Γ b with
 | none => rfl
 | some x => exact absurd (hG.lt (k := b) (by rw [e]; simp)) (by omega)⟩
theorem cB {Γ : Gh} {wb : Nat} (t : ByteArray) (w : World) (h : In Γ w wb) {inl : Bool} {ma : Option Addr} {mn mc : Nat} {ca : Option Addr} {cn cc : Nat} {u : Int} {oa : Option Addr} {on oc : Nat} {e at1 : Int} (hf : bO Γ w wb inl ma mn mc ca cn cc u oa on oc e at1) :
 Calls Tryz.prog 93 #[.pointer (some ⟨wb, 0, none⟩), .string t] w fun r w' => (∃ k : Int, r = .returned (.int .i64 k) ∧ -1 ≤ k ∧ k < mn) ∧ Below w.heap.size w w' := by
 have c1 := hf.c1; have hle := hf.mle; have hlt := h.lt; obtain ⟨a, cap, e1, h2, h3, h4⟩ := hf.m.view.cells h.good; injection e1 with e1 e2 e3; subst e1 e3; have HA := qd h4; clear h hf h4 h2 h3; go_enter Tryz.func93, Tryz.ntmps93; go_wp2
 go_loopw [5] (fun i wr => ∃ k : Nat, k ≤ mn ∧ i = .int .i64 k ∧ Below w.heap.size w wr) (fun i _ => mn - (intOf i).toNat)
 case atStart => exact ⟨0, Nat.zero_le _, rfl, Below.refl _ _⟩
 case round =>
  obtain ⟨k, hk, rfl, hB⟩ := hrel; have d1 := (hB.cell (p := ⟨wb, 1, none⟩) hlt).trans c1; have hs := hB.size
  by_cases hkm : k < mn
  · obtain ⟨b, o, rfl, hb, _, hc⟩ := HA.out (by omega); obtain ⟨f, ⟨s, b1, n1, f0, f1, _⟩, f3⟩ := hc k hkm; have k0 := (hB.cell (p := ⟨b, o + k * 4 + 0, none⟩) hb).trans (f3 0 (by decide)); rw [f0] at k0; simp only [Nat.add_zero] at k0; clear hc f3
    by_cases hst : s = t
    · subst hst; go_wp2; go_ret; exact ⟨⟨k, rfl, by omega, by omega⟩, by go_grown⟩
    · have hst' : (s.toList == t.toList) = false := by rw [ce]; simp [hst]
      go_wp2; go_roundw
      case rel => exact ⟨k + 1, by omega, by go_num, by go_grown⟩
      case measure => simp [intOf]; omega
  · obtain rfl : k = mn := by omega
    go_wp2; go_ret; exact ⟨⟨-1, rfl, by omega, by omega⟩, by go_grown⟩
theorem cm {Γ : Gh} {wb : Nat} (w : World) (h : In Γ w wb) :
 Calls Tryz.prog 36 #[.pointer (some ⟨wb, 0, none⟩)] w fun r w' => (∃ b, r = .returned (.bool b)) ∧ Below w.heap.size w w' := by
 obtain ⟨inl, ma, mn, mc, ca, cn, cc, u, oa, on, oc, e, at1, hf⟩ := h.fields; have c2 := hf.c2; have hle := hf.cle; have hlt := h.lt; obtain ⟨a, cap, e1, h2, h3, h4⟩ := hf.c.view.cells h.good; injection e1 with e1 e2 e3; subst e1 e3
 by_cases hn : cn = 0
 · subst hn; clear h hf h4 h2 h3; go_enter Tryz.func36, Tryz.ntmps36; go_wp2; go_region
   all_goals
    go_wp2; go_ret; exact ⟨⟨_, rfl⟩, by go_grown⟩
 · obtain ⟨b, o, rfl, hb, _, hc⟩ := h4 (by omega); obtain ⟨f, f1, f3⟩ := hc (cn - 1) (by omega); obtain ⟨x, hx⟩ := f1 2 (by omega); have k2 : w.cell? ⟨b, o + (cn - 1) * 4 + 2, none⟩ = some (.bool x) := (f3 2 (by decide)).trans (congrArg some hx); have hi : ((cn : Int) - 1).toNat = cn - 1 := by omega
   have hz : ((cn : Int) == 0) = false := by rw [beq_eq_false_iff_ne]; omega
   clear h hf hc f3 h2 h3 f1 hx; go_enter Tryz.func36, Tryz.ntmps36; go_wp2; go_region
   all_goals
    go_wp2; go_ret; exact ⟨⟨_, rfl⟩, by go_grown⟩
theorem gn {Γ : Gh} (v : Value) (n : Nat) (t : ay) (w : World) (hG : aD Γ w) (hv : ci Γ .str v n) :
 Calls Tryz.prog 139 #[v, t.val] w fun r w' => (∃ k : Int, r = .returned (.int .i64 k) ∧ -1 ≤ k ∧ k < n) ∧ Below w.heap.size w w' := by
 obtain ⟨a, cap, rfl, h2, h3, h4⟩ := hv.cells hG; have hm : n ≤ 9223372036854775807 := by unfold maxLen at h3; omega
 have HA := qd h4; clear hG hv h4 h2 h3; unfold ay.val; obtain ⟨t0, t1, t2, t3, t4⟩ := t; go_enter Tryz.func139, Tryz.ntmps139; go_wp2
 go_loopw [5] (fun i wr => ∃ k : Nat, k ≤ n ∧ i = .int .i64 k ∧ Below w.heap.size w wr ∧ wr.heap[w.heap.size]? = some (.cells #[.int .i64 t0, .int .i64 t1, .int .i64 t2, .string t3, .int .i64 t4] 31 (0, 0))) (fun i _ => n - (intOf i).toNat)
 case atStart => exact ⟨0, Nat.zero_le _, rfl, by go_grown, al _ _⟩
 case round =>
  obtain ⟨k, hk, rfl, hB, hx⟩ := hrel; have d0 : wr.cell? ⟨w.heap.size, 0, none⟩ = some (.int .i64 t0) := (cell_of_row wr _ 0 _ _ _ hx).trans rfl; have d3 : wr.cell? ⟨w.heap.size, 3, none⟩ = some (.string t3) := (cell_of_row wr _ 3 _ _ _ hx).trans rfl; have hs := af hx; have HX := qd hx; clear hx
  by_cases hkm : k < n
  · obtain ⟨b, o, rfl, hb, _, hc⟩ := HA.out (by omega); obtain ⟨f, ⟨s, f0⟩, f3⟩ := hc k hkm; have k0 : wr.cell? ⟨b, o + k, none⟩ = some (.string s) := (hB.cell (p := ⟨b, o + k, none⟩) hb).trans (by have := f3 0 (by decide); simp only [Rl.sz, Nat.mul_one, Nat.add_zero] at this; rw [this, f0]); clear hc f3 f0
    by_cases h1 : t0 = 1
    · subst h1
      by_cases hst : t3 = s
      · subst hst; go_wp2_with fail; go_region
        all_goals
         go_wp2; go_ret; exact ⟨⟨k, rfl, by omega, by omega⟩, by go_grown⟩
      · have hst' : (t3.toList == s.toList) = false := by rw [ce]; simp [hst]
        go_wp2_with fail; go_region
        all_goals
         go_wp2; go_roundw
         case rel => exact ⟨k + 1, by omega, by go_num, by go_grown, HX.out⟩
         case measure => simp [intOf]; omega
    · have h1' : (t0 == 1) = false := by rw [beq_eq_false_iff_ne]; exact h1
      go_wp2_with fail; go_region
      all_goals
       go_wp2; go_roundw
       case rel => exact ⟨k + 1, by omega, by go_num, by go_grown, HX.out⟩
       case measure => simp [intOf]; omega
  · obtain rfl : k = n := by omega
    go_wp2; go_ret; exact ⟨⟨-1, rfl, by omega, by omega⟩, by go_grown⟩
theorem bZ {w w' : World} {b : Nat} {o : Obj} (hb : Below w.heap.size w w') (h : w.heap[b]? = some o) : w'.heap[b]? = some o := (hb.block b (af h)).trans h
theorem cF {w : World} {b : Nat} {a0 a1 a2 a3 a4 : Value} {E : TypeId} {fr : Nat × Nat} (h : w.heap[b]? = some (.cells #[a0, a1, a2, a3, a4] E fr)) : w.cell? ⟨b, 0, none⟩ = some a0 ∧ w.cell? ⟨b, 1, none⟩ = some a1 ∧ w.cell? ⟨b, 2, none⟩ = some a2 ∧ w.cell? ⟨b, 3, none⟩ = some a3 ∧ w.cell? ⟨b, 4, none⟩ = some a4 := ⟨(cell_of_row w b 0 _ _ _ h).trans rfl, (cell_of_row w b 1 _ _ _ h).trans rfl, (cell_of_row w b 2 _ _ _ h).trans rfl, (cell_of_row w b 3 _ _ _ h).trans rfl, (cell_of_row w b 4 _ _ _ h).trans rfl⟩
theorem dz {w : World} {b : Nat} {a0 a1 a2 a3 : Value} {E : TypeId} {fr : Nat × Nat} (h : w.heap[b]? = some (.cells #[a0, a1, a2, a3] E fr)) : w.cell? ⟨b, 0, none⟩ = some a0 ∧ w.cell? ⟨b, 1, none⟩ = some a1 ∧ w.cell? ⟨b, 2, none⟩ = some a2 ∧ w.cell? ⟨b, 3, none⟩ = some a3 := ⟨(cell_of_row w b 0 _ _ _ h).trans rfl, (cell_of_row w b 1 _ _ _ h).trans rfl, (cell_of_row w b 2 _ _ _ h).trans rfl, (cell_of_row w b 3 _ _ _ h).trans rfl⟩
theorem pt {Γ : Gh} {wb : Nat} (t : ay) (w : World) (h : In Γ w wb) :
 Calls Tryz.prog 163 #[.pointer (some ⟨wb, 0, none⟩), t.val] w fun r w' => (∃ b, r = .returned (.bool b)) ∧ Below w.heap.size w w' := by
 obtain ⟨inl, ma, mn, mc, ca, cn, cc, u, oa, on, oc, e, at1, hf⟩ := h.fields; have c0 := hf.c0; have hlt := h.lt; clear h hf; have HI : Hid (∀ (s : ByteArray) (w : World), Calls Tryz.prog 35 #[t.val, .string s] w fun e w' => (∃ b, e = .returned (.bool b)) ∧ Below w.heap.size w w') := fun s w => bI t s w
 obtain ⟨t0, t1, t2, t3, t4⟩ := t; unfold ay.val at HI ⊢; go_enter Tryz.func163, Tryz.ntmps163; go_wp2_with fail; refine (HI.out _ _).mono ?_; rintro e w1 ⟨⟨b1, rfl⟩, h1⟩; have HB1 : Hid (Below w.heap.size w w1) := (br.alloc (Nat.le_refl _) _).trans (h1.mono (by simp)); have k1 := bZ h1 (al w _); clear h1; obtain ⟨d0, d1, d2, d3, d4⟩ := cF k1; have hs1 := af k1; go_wp2_with fail; refine (HI.out _ _).mono ?_; rintro e w2 ⟨⟨b2, rfl⟩, h2⟩; have HB2 : Hid (Below w.heap.size w w2) := HB1.out.trans (h2.mono HB1.out.size); have k2 := bZ h2 k1; clear h2 k1 d0 d1 d2 d3 d4; obtain ⟨d0, d1, d2, d3, d4⟩ := cF k2; have hs2 := af k2; cases b2 with
 | true =>
   have g0 := (HB2.out.cell (p := ⟨wb, 0, none⟩) hlt).trans c0; have HF := HB2; cases b1 <;> cases inl <;>
   · go_wp2; go_ret; exact ⟨⟨_, rfl⟩, HF.out⟩
 | false =>
   go_wp2_with fail; refine (HI.out _ _).mono ?_; rintro e w3 ⟨⟨b3, rfl⟩, h3⟩; have HB3 : Hid (Below w.heap.size w w3) := HB2.out.trans (h3.mono HB2.out.size); clear h3; have hs3 := HB3.out.size; have g0 := (HB3.out.cell (p := ⟨wb, 0, none⟩) hlt).trans c0; cases b1 <;> cases inl <;>
   · go_wp2; go_ret; exact ⟨⟨_, rfl⟩, HB3.out⟩
theorem nV {Γ : Gh} {wb : Nat} (t : ay) (w : World) (h : In Γ w wb) :
 Calls Tryz.prog 164 #[.pointer (some ⟨wb, 0, none⟩), t.val] w fun r w' => (∃ b, r = .returned (.bool b)) ∧ Below w.heap.size w w' := by
 obtain ⟨inl, ma, mn, mc, ca, cn, cc, u, oa, on, oc, e, at1, hf⟩ := h.fields; have c0 := hf.c0; have hlt := h.lt; clear h hf; have HI : Hid (∀ (s : ByteArray) (w : World), Calls Tryz.prog 35 #[t.val, .string s] w fun e w' => (∃ b, e = .returned (.bool b)) ∧ Below w.heap.size w w') := fun s w => bI t s w
 obtain ⟨t0, t1, t2, t3, t4⟩ := t; unfold ay.val at HI ⊢; go_enter Tryz.func164, Tryz.ntmps164; go_wp2_with fail; refine (HI.out _ _).mono ?_; rintro e w1 ⟨⟨b1, rfl⟩, h1⟩; have HB1 : Hid (Below w.heap.size w w1) := (br.alloc (Nat.le_refl _) _).trans (h1.mono (by simp)); have k1 := bZ h1 (al w _); clear h1; obtain ⟨d0, d1, d2, d3, d4⟩ := cF k1; have hs1 := af k1; go_wp2_with fail; refine (HI.out _ _).mono ?_; rintro e w2 ⟨⟨b2, rfl⟩, h2⟩; have HB2 : Hid (Below w.heap.size w w2) := HB1.out.trans (h2.mono HB1.out.size); have k2 := bZ h2 k1; clear h2 k1 d0 d1 d2 d3 d4; obtain ⟨d0, d1, d2, d3, d4⟩ := cF k2; have hs2 := af k2; cases b2 with
 | true =>
   have g0 := (HB2.out.cell (p := ⟨wb, 0, none⟩) hlt).trans c0; have HF := HB2; cases b1 <;> cases inl <;>
   · go_wp2; go_ret; exact ⟨⟨_, rfl⟩, HF.out⟩
 | false =>
   go_wp2_with fail; refine (HI.out _ _).mono ?_; rintro e w3 ⟨⟨b3, rfl⟩, h3⟩; have HB3 : Hid (Below w.heap.size w w3) := HB2.out.trans (h3.mono HB2.out.size); clear h3; have hs3 := HB3.out.size; have g0 := (HB3.out.cell (p := ⟨wb, 0, none⟩) hlt).trans c0; cases b1 <;> cases inl <;>
   · go_wp2; go_ret; exact ⟨⟨_, rfl⟩, HB3.out⟩
theorem kD (b : Bool) (w : World) : Calls Tryz.prog 167 #[.bool b] w fun r w' => r = .returned (.int .i64 (if b then 1 else 0)) ∧ Below w.heap.size w w' := by
 cases b <;>
 · go_enter Tryz.func167, Tryz.ntmps167; go_wp2; go_ret; exact ⟨rfl, by go_grown⟩
end Go.Proofs.YthkebhjaaikopaaGreatDoor

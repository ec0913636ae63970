/- Part of the proof of SyntaxLooseCardSaid (L M). -/
import Derived.Test.YthkebhjaaikopaaGreatDoorM02
import Derived.Test.YthkebhjaaikopaaGreatDoorShelf
import Derived.RegionTactic
import Derived.Deep.RegionLaw
import Derived.StillTailTactics
set_option maxHeartbeats 8000000
namespace Go.Proofs.YthkebhjaaikopaaGreatDoor
open Go.ChangeShapes Go.WideShapes Go.ChangeAt Go.RowKit Go.Deep Go.Joins Go.Instr
theorem uj : lh 27 39 6 := eX Tryz.underlying27 (by kernel_rfl) (by decide)
theorem cS : lh 37 3 1 := eX Tryz.underlying37 (by kernel_rfl) (by decide)
theorem bu {α : Type} {T E sz : Nat} (hT : lh T E sz) {w : World} {ops : Array Oper} {o : Oper} {a : Act} {K : Act → World → Prop} {Q : Exit → Act → World → Prop} {EE : Prop} (hgd : o.guard = none) (s x : Operand)
 (ho : o.op = .call { callee := .builtin .append, args := #[s, x], argTypes := #[T, T] })
 (base : Nat) (enc : α → Nat → Value) (v : Value) (l : List α) (hs : a.eval s = v) (hown : Ow w base E sz enc v l)
 (b0 : Nat) (y : α) (cs : Array Value) (hx : a.eval x = .slice (some ⟨b0, 0, none⟩) 1 1) (hb : w.heap[b0]? = some (.cells cs E (0, 0))) (hcs : cs.toList = (List.range sz).map (enc y)) (h1 : ∀ u ∈ cs.toList, u.oneCell' = true)
 (h63 : l.length + 1 ≤ 1000000000) (hbase : base ≤ w.heap.size)
 (h : ∀ g cap w', Ow w' base E sz enc (.slice (some ⟨g, 0, none⟩) (l.length + 1) cap) (l ++ [y]) → w.grownBy w' v.ownBlock → (v.ownBlock = some g ∨ g = w.heap.size) → K (a.put o.dst (.slice (some ⟨g, 0, none⟩) (l.length + 1) cap)) w') :
 if Region.wanted o (yielded ops a.tmps) = true then Oper.wp Tryz.prog o a w K Q else EE := by
 obtain ⟨i, z, hi, hz, hs1, hz2, hby⟩ := hT.ex; refine step_append_lies w hgd s x T ho base E i z sz i.bytes hT.und hi hz hs1 rfl hz2 hT.pos v l.length (eF sz enc l) hs hown ⟨b0, 0, none⟩ 1 1 cs.toList hx (by rw [hcs]; simp) (World.news_of_block (cs := cs) hb) h1 (by omega) (by unfold maxLen; omega) ?_ hbase _ rfl ?_
 · have := Nat.mul_le_mul h63 hby
   omega
 · intro g cap w' h1 h2 h3 _; refine h g cap w' ?_ h2 h3; unfold Ow; rw [dX, hD, ← hcs]; simpa using h1
theorem nK (w : World) (a b : Obj) : ((w.alloc a).alloc b).drew.heap[w.heap.size + 1]? = some b := by
 show ((w.heap.push a).push b)[w.heap.size + 1]? = _; rw [Array.getElem?_push, if_pos (by simp)]
def tV (kind a l : Int) (text : ByteArray) (n : Int) (kv : Value) : Value := .agg #[.int .i64 kind, .int .i64 a, .int .i64 l, .string text, .int .i64 n, kv]
theorem dG (t : ByteArray) (w : World) (hs : t.size ≤ 281474976710656) : Calls Tryz.prog 57 #[.string t] w fun e w' => e = .returned (.string t) ∧ Below w.heap.size w w' := by
 have H := qd (Tryz.stringslite_Clone t w hs); clear hs; go_enter Tryz.func57, Tryz.ntmps57; go_wp2_with fail; refine H.out.mono ?_; rintro e w1 ⟨rfl, hb⟩; have HB := qd hb; clear hb; go_wp2_with fail; go_ret; exact ⟨rfl, HB.out⟩
set_option maxRecDepth 100000 in
theorem fL (E : aN) (s : St) (tv : TV) (t : Nat) (kind a l : Int) (text : ByteArray) (n : Int) (kv : Value) (kids : List Int) (w : World) (hE : ax E) (hp : PI E s tv w) (hk : Ow w E.B 3 1 bC kv kids) (hsz : text.size ≤ 1000000) :
 Calls Tryz.prog 24 #[.pointer (some ⟨E.pb, 0, none⟩), (E.tk t).val, tV kind a l text n kv] w (dn E (fun g => kv.ownBlock = some g) tv w ap (put t kind text n kids s)) := by
 obtain ⟨tv, ks⟩ := tv; obtain ⟨T, hT1, hT2, hT3⟩ := hp.tree; simp only at hT2 hT3; obtain ⟨ta, tc, rfl⟩ := hT2.slice; obtain ⟨ka, kc, rfl⟩ := hk.slice; have hlen : T.length = s.tree.length := by rw [← hT1]; simp
 have c1 := hp.c1; have HP := qd hp; have HE := qd hE; have HK := qd hk; have HT1 := qd hT1; have HT2 := qd hT2; have HT3 := qd hT3; have HL := qd hlen; have hlm := hp.len; rw [← hlen] at hlm; have hpb := hp.pbLt; have hfr := hp.free 1; have HCL : Hid (∀ w : World, Calls Tryz.prog 57 #[.string text] w fun e w' => e = .returned (.string text) ∧ Below w.heap.size w w') := fun w => dG text w (by omega)
 clear hsz; have hB : E.B ≤ w.heap.size := by have := hE.bp; omega
 obtain ⟨x, HX⟩ : ∃ x, Hid (E.tk t = x) := ⟨_, rfl⟩; rw [HX.out]; clear hp hE hk hT1 hT2 hT3; obtain ⟨x0, x1, x2, x3, x4⟩ := x; unfold ay.val tV put; rw [← hlen]; clear hlen
 by_cases hfull : T.length = 16384
 · rw [if_pos hfull]; have hz : ((T.length : Int) == 16384) = true := by rw [hfull]; rfl
   obtain ⟨PP, hPP⟩ : ∃ PP, PP = dn E (fun g => (Value.slice ka kids.length kc).ownBlock = some g) ⟨.slice ta T.length tc, ks⟩ w ap (.err 8 t) := ⟨_, rfl⟩; rw [← hPP]; have HPP := qd hPP; have HF := qd hfull; clear hPP hfull; go_enter Tryz.func24, Tryz.ntmps24; go_wp2_with fail; refine ⟨rfl, ?_⟩; rw [HPP.out]; refine ⟨by rw [HX.out]; rfl, _, (Fr.of_below (tv := ⟨.slice ta T.length tc, ks⟩) ((br.alloc (Nat.le_refl _) _).alloc (by simp) _)).any⟩
 · rw [if_neg hfull]; have hz : ((T.length : Int) == 16384) = false := by
    rw [beq_eq_false_iff_ne]; omega
   have hlt : T.length < 16384 := by omega
   clear hfull; obtain ⟨PP, hPP⟩ : ∃ PP, PP = dn E (fun g => (Value.slice ka kids.length kc).ownBlock = some g) ⟨.slice ta T.length tc, ks⟩ w ap (.ok T.length { s with tree := s.tree ++ [⟨kind, t, text, n, kids⟩] }) := ⟨_, rfl⟩; rw [← hPP]; have HPP := qd hPP; clear hPP; go_enter Tryz.func24, Tryz.ntmps24; go_wp2_with fail; go_region; generalize hW3 : World.drew _ = W3; have HG3 : Hid (Below w.heap.size w W3) := by rw [← hW3]; exact ((br.alloc (Nat.le_refl _) _).alloc (by simp) _).drew
   have hb3 : W3.heap[w.heap.size + 1]? = some (.cells #[.int .i64 kind, .int .i64 x1, .int .i64 x2, .string text, .int .i64 n, .slice ka kids.length kc] 39 (0, 0)) := by rw [← hW3]; exact nK w _ _
   clear hW3; have hs3 := af hb3; have HB3 := qd hb3; have n3 : W3.cell? ⟨w.heap.size + 1, 3, none⟩ = some (.string text) := (cell_of_row W3 _ 3 _ _ _ hb3).trans rfl; clear hb3; go_wp2_with fail; refine (HCL.out _).mono ?_; rintro e w4 ⟨rfl, hb4⟩; have HG4 : Hid (Below w.heap.size w w4) := HG3.out.trans (hb4.mono HG3.out.size); have hB4 := (hb4.block _ hs3).trans HB3.out; have hs4 := af hB4; have m3 : w4.cell? ⟨w.heap.size + 1, 3, none⟩ = some (.string text) := (cell_of_row w4 _ 3 _ _ _ hB4).trans rfl; have f3 := frozen_of_row w4 (w.heap.size + 1) 3 _ _ hB4; have HB4 := qd hB4; clear hb4 hB4 n3; go_wp2_with fail; generalize hW5 : World.setCell w4 _ _ = W5; have HB5 : Hid (W5.heap[w.heap.size + 1]? = some (.cells #[.int .i64 kind, .int .i64 x1, .int .i64 x2, .string text, .int .i64 n, .slice ka kids.length kc] 39 (0, 0))) := by
    unfold Hid; rw [← hW5]; exact heap_setCell_same w4 _ 3 _ 39 _ HB4.out
   have HO5 : Hid (am (fun k => k = w.heap.size + 1) w4 W5) := by unfold Hid; rw [← hW5]; exact (am.refl (fun k => k = w.heap.size + 1) w4).setCell (p := ⟨w.heap.size + 1, 3, none⟩) (.inl rfl) _
   clear hW5 m3 f3; have HG5 : Hid (Below w.heap.size w W5) := HG4.out.trans (HO5.out.below (by have := HG4.out.size; omega) (fun k hk => by omega)); have HP5 := qd (HP.out.keep HG5.out); have c15 := HP5.out.c1; have f15 := HP5.out.free 1; have m0 : W5.cell? ⟨w.heap.size + 1, 0, none⟩ = some (.int .i64 kind) := (cell_of_row W5 _ 0 _ _ _ HB5.out).trans rfl; have m1 : W5.cell? ⟨w.heap.size + 1, 1, none⟩ = some (.int .i64 x1) := (cell_of_row W5 _ 1 _ _ _ HB5.out).trans rfl; have m2 : W5.cell? ⟨w.heap.size + 1, 2, none⟩ = some (.int .i64 x2) := (cell_of_row W5 _ 2 _ _ _ HB5.out).trans rfl; have m3 : W5.cell? ⟨w.heap.size + 1, 3, none⟩ = some (.string text) := (cell_of_row W5 _ 3 _ _ _ HB5.out).trans rfl; have m4 : W5.cell? ⟨w.heap.size + 1, 4, none⟩ = some (.int .i64 n) := (cell_of_row W5 _ 4 _ _ _ HB5.out).trans rfl; have m5 : W5.cell? ⟨w.heap.size + 1, 5, none⟩ = some (.slice ka kids.length kc) := (cell_of_row W5 _ 5 _ _ _ HB5.out).trans rfl; have hs5 := af HB5.out; have hz5 : E.B ≤ W5.heap.size := by omega
   clear c1 hfr; have HT5 : Hid (Ow W5 E.B 39 6 E.encN (.slice ta T.length tc) T) := HT2.out.keep HG5.out; have HK5 : Hid (∀ t ∈ T, Ow W5 E.B 3 1 bC t.kv t.nd.kids ∧ ∀ g, t.kv.ownBlock = some g → ks g) := fun t ht => ⟨(HT3.out t ht).1.keep HG5.out, (HT3.out t ht).2⟩
   have HY5 : Hid (Ow W5 E.B 3 1 bC (.slice ka kids.length kc) kids) := HK.out.keep HG5.out; have HYE : Hid ((#[.int .i64 kind, .int .i64 x1, .int .i64 x2, .string text, .int .i64 n, .slice ka kids.length kc] : Array Value).toList = (List.range 6).map (E.encN ⟨⟨kind, t, text, n, kids⟩, .slice ka kids.length kc⟩)) := by
    unfold Hid; show _ = [Value.int .i64 kind, .int .i64 (E.tk t).at1, .int .i64 (E.tk t).line, .string text, .int .i64 n, .slice ka kids.length kc]; rw [HX.out]
   have HY1 : Hid (∀ u ∈ (#[.int .i64 kind, .int .i64 x1, .int .i64 x2, .string text, .int .i64 n, .slice ka kids.length kc] : Array Value).toList, u.oneCell' = true) := by
    intro u hu; simp at hu; rcases hu with rfl | rfl | rfl | rfl | rfl | rfl <;> rfl
   have HTL : Hid (T.length + 1 ≤ 1000000000) := by unfold Hid; omega
   have hN0 : Hid ((Value.slice ta T.length tc).ownBlock ≠ some E.pb) := dl HT5.out HP5.out.p (by decide); have hpb5 := HP5.out.pbLt
   go_region_law ((refine bu uj rfl (.tmp 31) (.tmp 33) rfl E.B E.encN (.slice ta T.length tc) T rfl (HT5.out.alloc _) W5.heap.size ⟨⟨kind, t, text, n, kids⟩, .slice ka kids.length kc⟩ #[.int .i64 kind, .int .i64 x1, .int .i64 x2, .string text, .int .i64 n, .slice ka kids.length kc] rfl (al _ _) HYE.out HY1.out HTL.out (by simp; omega) ?_; intro g cap w6 h1 h2 h3; have hp6 := ((h2.block E.pb (by simp; omega) (fun e => hN0.out e.symm)).trans (Below.heap_alloc _ _ _ hpb5)).trans HP5.out.p; have r1 := cell_of_row w6 E.pb 1 _ _ _ hp6; have r2 := frozen_of_row w6 E.pb 1 _ _ hp6; simp only [aN.row] at r1))
   all_goals
    obtain ⟨hpF, hfF⟩ := PI.push (y := ⟨⟨kind, t, text, n, kids⟩, .slice ka kids.length kc⟩) HE.out HP5.out HT1.out HT5.out HK5.out HY5.out ((br.alloc (Nat.le_refl _) _).drew) h2 h1 (fun q hq => by
     obtain rfl : g = q := by simpa [Value.ownBlock] using hq
     rcases h3 with h3 | h3
     · exact .inl h3
     · refine .inr ?_; rw [h3]; show W5.heap.size ≤ (W5.heap.push _).size; simp) hlt
    have HPF := qd hpF; have HFF := qd hfF; clear hpF hfF h1 h2 h3 hp6; go_wp2_with fail; rw [HPP.out]; exact ⟨by first | rfl | (unfold ap; congr 1; congr 1; omega), _, HPF.out, gh.after (Fr.of_below (tv := ⟨.slice ta T.length tc, ks⟩) HG5.out) HFF.out⟩
structure lg (E : aN) (N : Nat) (first caps : Array Value) (p : Pm Int) (s : St) : Prop where
 deep : ∀ k s', p s = .ok k s' → s'.deep = s.deep
 eg : ∀ args w, (callFunc N args).run Tryz.prog w = .ok (.enter N args) w
 does : ∀ (tv : TV) (w : World), PI E s tv w → Calls Tryz.prog N (first ++ caps) w (aQ E tv w ap (p s))
theorem sW : ∀ args w, (callFunc 145 args).run Tryz.prog w = .ok (.enter 145 args) w := fun args w => by kernel_rfl
set_option maxRecDepth 100000 in
theorem ig (E : aN) (s : St) (tv : TV) (N : Nat) (first caps : Array Value) (p : Pm Int) (w : World) (hE : ax E) (hp : PI E s tv w) (hd : lg E N first caps p { s with deep := s.deep + 1 }) :
 Calls Tryz.prog 170 #[.pointer (some ⟨E.pb, 0, none⟩), .func (.func N) first caps] w (aQ E tv w ap (within p s)) := by
 have c5 := hp.c5; have f5 := hp.free 5; have hpb := hp.pbLt; have hd0 := hp.d0; have hd1 := hp.d1; have HP := qd hp; have HE := qd hE; have HD := qd hd; clear hp hE hd; unfold within; have heg := HD.out.eg
 by_cases h64 : 64 ≤ s.deep
 · rw [if_pos h64]; obtain ⟨PP, hPP⟩ : ∃ PP, PP = aQ E tv w ap (.err 7 s.i) := ⟨_, rfl⟩; rw [← hPP]; have HPP := qd hPP; clear hPP; have HH := qd (eU E s tv w HE.out HP.out); have HX : Hid (∀ x : ay, x.val = .agg #[.int .i64 x.kind, .int .i64 x.at1, .int .i64 x.line, .string x.text, .int .i64 x.n]) := fun _ => rfl
   rw [HX.out] at HH; have hf1 := uA (E.tk s.i).kind (E.tk s.i).at1 (E.tk s.i).line (E.tk s.i).text (E.tk s.i).n; go_enter Tryz.func170, Tryz.ntmps170; go_wp2_with fail; refine HH.out.mono ?_; rintro e w1 ⟨rfl, hb⟩; have HB := qd hb; clear hb; go_wp2_with fail; refine ⟨rfl, ?_⟩; rw [HPP.out]; exact ⟨rfl, tv, Fr.of_below HB.out⟩
 · rw [if_neg h64]; obtain ⟨r, HR⟩ : ∃ r, Hid (p { s with deep := s.deep + 1 } = r) := ⟨_, rfl⟩; rw [HR.out]; obtain ⟨PP, hPP⟩ : ∃ PP, PP = aQ E tv w ap (r.next fun k s' => .ok k { s' with deep := s'.deep - 1 }) := ⟨_, rfl⟩; rw [← hPP]; have HPP := qd hPP; clear hPP; have HS : Hid (PI E { s with deep := s.deep + 1 } tv (w.setCell ⟨E.pb, 5, none⟩ (.int .i64 (s.deep + 1)))) := HP.out.set HE.out 5 _ rfl rfl HP.out.i (by show 0 ≤ s.deep + 1; omega) (by show s.deep + 1 ≤ 64; omega); go_enter Tryz.func170, Tryz.ntmps170; go_wp2_with fail; refine (HD.out.does tv _ HS.out).mono ?_; rintro e w1 hpost; rw [HR.out] at hpost; cases r with
   | ok k s1 =>
     obtain ⟨rfl, tv1, hp1, hf1⟩ := hpost; have HF1 := qd hf1; have HP1 := qd hp1; have c5' := hp1.c5; have f5' := hp1.free 5; have d0' := hp1.d0; have d1' := hp1.d1; clear hp1 hf1 c5 f5; unfold ap; have hd : s1.deep = s.deep + 1 := HD.out.deep k s1 HR.out; have HD1 := qd hd; clear hd; go_wp2_with fail; rw [HPP.out]; refine ⟨rfl, tv1, HP1.out.set HE.out 5 _ rfl rfl HP1.out.i ?_ ?_, ((Fr.set E tv w 5 _).trans HF1.out).trans (Fr.set E tv1 w1 5 _)⟩
     · have := HD1.out; show 0 ≤ s1.deep - 1; omega
     · have := HD1.out; show s1.deep - 1 ≤ 64; omega
   | err c q =>
     obtain ⟨rfl, tv1, hf1⟩ := hpost; have HF1 := qd hf1; clear hf1; unfold bi; go_wp2_with fail; refine ⟨rfl, ?_⟩; rw [HPP.out]; exact ⟨rfl, tv1, (Fr.set E tv w 5 _).trans HF1.out⟩
   | stuck => exact hpost.elim
set_option maxRecDepth 100000 in
theorem gH (E : aN) (s : St) (tv : TV) (m : Bool) (N : Nat) (first caps : Array Value) (p : Pm Int) (w : World) (hE : ax E) (hp : PI E s tv w) (hd : lg E N first caps p { s with mid := m }) :
 Calls Tryz.prog 147 #[.pointer (some ⟨E.pb, 0, none⟩), .bool m, .func (.func N) first caps] w (aQ E tv w ap (plainly m p s)) := by
 have c6 := hp.c6; have f6 := hp.free 6; have hpb := hp.pbLt; have HP := qd hp; have HE := qd hE; have HD := qd hd; clear hp hE hd; unfold plainly; have heg := HD.out.eg; obtain ⟨r, HR⟩ : ∃ r, Hid (p { s with mid := m } = r) := ⟨_, rfl⟩; rw [HR.out]; obtain ⟨PP, hPP⟩ : ∃ PP, PP = aQ E tv w ap (r.next fun k s' => .ok k { s' with mid := s.mid }) := ⟨_, rfl⟩; rw [← hPP]; have HPP := qd hPP; clear hPP; have HS : Hid (PI E { s with mid := m } tv (w.setCell ⟨E.pb, 6, none⟩ (.bool m))) := HP.out.set HE.out 6 _ rfl rfl HP.out.i HP.out.d0 HP.out.d1; go_enter Tryz.func147, Tryz.ntmps147; go_wp2_with fail; refine (HD.out.does tv _ HS.out).mono ?_; rintro e w1 hpost; rw [HR.out] at hpost; cases r with
 | ok k s1 =>
   obtain ⟨rfl, tv1, hp1, hf1⟩ := hpost; have HF1 := qd hf1; have HP1 := qd hp1; have c6' := hp1.c6; have f6' := hp1.free 6; clear hp1 hf1 c6 f6; unfold ap; go_wp2_with fail; rw [HPP.out]; exact ⟨rfl, tv1, HP1.out.set HE.out 6 _ rfl rfl HP1.out.i HP1.out.d0 HP1.out.d1, ((Fr.set E tv w 6 _).trans HF1.out).trans (Fr.set E tv1 w1 6 _)⟩
 | err c q =>
   obtain ⟨rfl, tv1, hf1⟩ := hpost; have HF1 := qd hf1; clear hf1; unfold bi; go_wp2_with fail; refine ⟨rfl, ?_⟩; rw [HPP.out]; exact ⟨rfl, tv1, (Fr.set E tv w 6 _).trans HF1.out⟩
 | stuck => exact hpost.elim
set_option maxRecDepth 100000 in
theorem jb (E : aN) (s : St) (tv : TV) (N : Nat) (first caps : Array Value) (p : Pm Int) (w : World) (hE : ax E) (hp : PI E s tv w) (hd : lg E N first caps p (aH E.K s)) :
 Calls Tryz.prog 106 #[.pointer (some ⟨E.pb, 0, none⟩), .func (.func N) first caps] w (aQ E tv w ap (braced E.K p s)) := by
 have HM := qd (eR E s tv ⟨#[40]⟩ w hE hp (by decide)); have HP := qd hp; have HE := qd hE; have HD := qd hd; clear hp hE hd; have heg := HD.out.eg; have HU : braced E.K p s = (must E.K ⟨#[40]⟩ s).next fun _ s1 => (p s1).next fun k s2 => (must E.K ⟨#[41]⟩ s2).next fun _ s3 => .ok k s3 := rfl
 rw [HU]; clear HU; obtain ⟨r0, HR0⟩ : ∃ r, Hid (must E.K ⟨#[40]⟩ s = r) := ⟨_, rfl⟩; rw [HR0.out] at HM ⊢; obtain ⟨PP, hPP⟩ : ∃ PP, PP = aQ E tv w ap (r0.next fun _ s1 => (p s1).next fun k s2 => (must E.K ⟨#[41]⟩ s2).next fun _ s3 => .ok k s3) := ⟨_, rfl⟩; rw [← hPP]; have HPP := qd hPP; clear hPP; go_enter Tryz.func106, Tryz.ntmps106; go_wp2_with fail; refine HM.out.mono ?_; rintro e w1 hpost; cases r0 with
 | ok u s1 =>
   obtain ⟨rfl, tv1, hp1, hf1⟩ := hpost; have HF1 := qd hf1; have HP1 := qd hp1; clear hp1 hf1; have hs1 : s1 = aH E.K s := by
    have h := HR0.out; unfold must at h
    split at h
    · injection h with h1 h2; exact h2.symm
    · cases h
   have HS1 := qd hs1; clear hs1; obtain ⟨r1, HR1⟩ : ∃ r, Hid (p s1 = r) := ⟨_, rfl⟩; go_wp2_with fail; refine (HD.out.does tv1 w1 (by rw [← HS1.out]; exact HP1.out)).mono ?_; rintro e w2 hpost; rw [← HS1.out, HR1.out] at hpost; cases r1 with
   | ok k s2 =>
     obtain ⟨rfl, tv2, hp2, hf2⟩ := hpost; have HF2 := qd hf2; have HP2 := qd hp2; clear hp2 hf2; unfold ap; have HM2 := qd (eR E s2 tv2 ⟨#[41]⟩ w2 HE.out HP2.out (by decide)); obtain ⟨r2, HR2⟩ : ∃ r, Hid (must E.K ⟨#[41]⟩ s2 = r) := ⟨_, rfl⟩; rw [HR2.out] at HM2; go_wp2_with fail; refine HM2.out.mono ?_; rintro e w3 hpost; cases r2 with
     | ok u s3 =>
       obtain ⟨rfl, tv3, hp3, hf3⟩ := hpost; have HF3 := qd hf3; have HP3 := qd hp3; clear hp3 hf3; go_wp2_with fail; rw [HPP.out]; simp only [R.next]; rw [HR1.out]; simp only; rw [HR2.out]; exact ⟨rfl, tv3, HP3.out, (HF1.out.trans HF2.out).trans HF3.out⟩
     | err c q =>
       obtain ⟨rfl, tv3, hf3⟩ := hpost; have HF3 := qd hf3; clear hf3; unfold bi; go_wp2_with fail; refine ⟨rfl, ?_⟩; rw [HPP.out]; simp only [R.next]; rw [HR1.out]; simp only; rw [HR2.out]; exact ⟨rfl, tv3, (HF1.out.trans HF2.out).trans HF3.out⟩
     | stuck => exact hpost.elim
   | err c q =>
     obtain ⟨rfl, tv2, hf2⟩ := hpost; have HF2 := qd hf2; clear hf2; unfold bi; go_wp2_with fail; refine ⟨rfl, ?_⟩; rw [HPP.out]; simp only [R.next]; rw [HR1.out]; exact ⟨rfl, tv2, HF1.out.trans HF2.out⟩
   | stuck => exact hpost.elim
 | err c q =>
   obtain ⟨rfl, tv1, hf1⟩ := hpost; have HF1 := qd hf1; clear hf1; unfold bi; go_wp2_with fail; refine ⟨rfl, ?_⟩; rw [HPP.out]; exact ⟨rfl, tv1, HF1.out⟩
 | stuck => exact hpost.elim
end Go.Proofs.YthkebhjaaikopaaGreatDoor

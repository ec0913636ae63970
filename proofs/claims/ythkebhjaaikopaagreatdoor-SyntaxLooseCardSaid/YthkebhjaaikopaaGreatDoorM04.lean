/- Part of the proof of SyntaxLooseCardSaid (N O P S Q T U W X). -/
import Derived.Test.YthkebhjaaikopaaGreatDoorM03
import Derived.Deep.RegionHeld2
set_option maxHeartbeats 8000000
set_option linter.unusedVariables false
namespace Go.Proofs.YthkebhjaaikopaaGreatDoor
open Go.ChangeShapes Go.WideShapes Go.ChangeAt Go.RowKit Go.Deep Go.Joins Go.Instr
theorem PI.glob {E : aN} {s : St} {tv : TV} {w : World} (h : PI E s tv w) (hE : ax E) {k : Nat} (hk : k < 6) : w.heap[k]? = E.W0.heap[k]? := h.low.block k (by have := hE.glob; omega)
def tS (w : World) (q : Nat) (t : ay) : Prop := w.heap[q]? = some (.cells #[.int .i64 t.kind, .int .i64 t.at1, .int .i64 t.line, .string t.text, .int .i64 t.n] 31 (0, 0))
theorem tS.c {w : World} {q : Nat} {t : ay} (h : tS w q t) : w.cell? ⟨q, 0, none⟩ = some (.int .i64 t.kind) ∧ w.cell? ⟨q, 1, none⟩ = some (.int .i64 t.at1) ∧ w.cell? ⟨q, 2, none⟩ = some (.int .i64 t.line) ∧ w.cell? ⟨q, 3, none⟩ = some (.string t.text) ∧ w.cell? ⟨q, 4, none⟩ = some (.int .i64 t.n) :=
 ⟨(cell_of_row w q 0 _ _ _ h).trans rfl, (cell_of_row w q 1 _ _ _ h).trans rfl, (cell_of_row w q 2 _ _ _ h).trans rfl, (cell_of_row w q 3 _ _ _ h).trans rfl, (cell_of_row w q 4 _ _ _ h).trans rfl⟩
theorem p9 (E : aN) (hE : ax E) : ∃ b o c, E.W0.heap[2]? = some (.cells #[.slice (some ⟨b, o, none⟩) 10 c] 53 (0, 0)) ∧ 10 ≤ c ∧ b < E.B ∧ Sl E.W0 1 iy (.slice (some ⟨b, o + 1, none⟩) 9 (c - 1)) cz := by
 obtain ⟨b, o, c, h1, h2, h3, h4, h5⟩ := hE.types; refine ⟨b, o, c, h1, h2, h4, _, _, rfl, by show 9 ≤ c - 1; omega, by unfold maxLen; omega, fun _ => ⟨b, o + 1, rfl, ?_, fun i hi j hj => ?_⟩⟩
 · by_cases h : b < E.W0.heap.size
   · exact h
   · have h0 := h5 0 (by omega); have := World.block_lt_of_cell? E.W0 _ h0; exact absurd this h
 · obtain rfl : j = 0 := by omega
   have := h5 i hi; simpa [iy] using this
theorem tE {w w' : World} {b : Nat} {v : Value} {l : List ByteArray} (h : Sl w 1 iy v l) (hb : Below b w w') (hv : ∀ g o, ∀ n c, v = .slice (some ⟨g, o, none⟩) n c → g < b) : Sl w' 1 iy v l := by
 obtain ⟨a, cap, h1, h2, h3, h4⟩ := h; refine ⟨a, cap, h1, h2, h3, fun hp => ?_⟩; obtain ⟨g, o, e1, e2, e3⟩ := h4 hp; subst e1; exact ⟨g, o, rfl, Nat.lt_of_lt_of_le e2 hb.size, fun i hi j hj => (hb.cell (p := ⟨g, _, none⟩) (hv g o _ _ h1)).trans (e3 i hi j hj)⟩
theorem jy {K : List KT} {s : St} : ∀ {l : List ByteArray} {i : Nat}, bN K s l = some i → i < l.length
 | [], i, h => by simp [bN] at h
 | a :: l, i, h => by
   unfold bN at h
   split at h
   · injection h with h; subst h; simp
   · cases hx : bN K s l with
     | none => rw [hx] at h; simp at h
     | some j =>
       rw [hx] at h; have := jy hx; simp at h; subst h; simp; omega
theorem bJ {K : List KT} {s s1 : St} {l : List ByteArray} {i : Nat} (h : takes K l s = .ok (some i) s1) : i < l.length := by
 unfold takes at h; cases hx : bN K s l with
 | none => rw [hx] at h; simp at h
 | some j =>
   rw [hx] at h; simp at h; obtain ⟨rfl, _⟩ := h; exact jy hx
theorem aQ.after {α : Type} {E : aN} {tv tv1 : TV} {w w1 w' : World} {val : α → Value} {r : R α} {e : Ending} (hf : Fr E tv w tv1 w1) (h : aQ E tv1 w1 val r e w') : aQ E tv w val r e w' := by
 unfold aQ at *; cases r with
 | ok a s' =>
   obtain ⟨h1, tv', h2, h3⟩ := h; exact ⟨h1, tv', h2, hf.trans h3⟩
 | err c p =>
   obtain ⟨h1, tv', h2⟩ := h; exact ⟨h1, tv', hf.trans h2⟩
 | stuck => exact h
theorem aR {E : aN} (hE : ax E) (d : Nat) : (E.tk d).text.size ≤ 1000000 := by
 unfold aN.tk; rw [List.getD_eq_getElem?_getD]; cases hd : E.L[d]? with
 | none => show ByteArray.empty.size ≤ 1000000; decide
 | some z => exact hE.size z (List.mem_of_getElem? hd)
theorem mJ : ∀ t ∈ cz, 0 < t.size := by
 intro t ht; simp only [cz, List.mem_cons, List.not_mem_nil, or_false] at ht; rcases ht with rfl | rfl | rfl | rfl | rfl | rfl | rfl | rfl | rfl <;> decide
set_option maxRecDepth 100000 in
theorem fH (E : aN) (s : St) (tv : TV) (w : World) (hE : ax E) (hp : PI E s tv w) :
 Calls Tryz.prog 101 #[.pointer (some ⟨E.pb, 0, none⟩)] w (aQ E tv w ap (typ E.K s)) := by
 obtain ⟨gb, go, gc, hg1, hg2, hgb, hg3⟩ := p9 E hE; have HH := qd (eU E s tv w hE hp); have HP := qd hp; have HE := qd hE; have HG1 := qd hg1; have HG3 := qd hg3; clear hp hE hg1 hg3; have HU : typ E.K s = (takes E.K cz s).next fun a s1 => (match a with
  | some i => put s.i 23 (⟨#[]⟩ : ByteArray) (i + 1) []
  | none => (do
    let d ← ident E.K
    put s.i 23 (tok E.K d).text 10 [])) s1 := rfl
 rw [HU]; clear HU; obtain ⟨x, HX⟩ : ∃ x, Hid (E.tk s.i = x) := ⟨_, rfl⟩; rw [HX.out] at HH; have HXV : Hid (x.val = .agg #[.int .i64 x.kind, .int .i64 x.at1, .int .i64 x.line, .string x.text, .int .i64 x.n]) := rfl; rw [HXV.out] at HH; obtain ⟨r0, HR0⟩ : ∃ r, Hid (takes E.K cz s = r) := ⟨_, rfl⟩; rw [HR0.out]; generalize hF : (fun (a : Option Nat) (s1 : St) => (match a with
  | some i => put s.i 23 (⟨#[]⟩ : ByteArray) (i + 1) []
  | none => (do
    let d ← ident E.K
    put s.i 23 (tok E.K d).text 10 [])) s1) = F
 have HF := qd hF; clear hF; obtain ⟨PP, hPP⟩ : ∃ PP, PP = aQ E tv w ap (r0.next F) := ⟨_, rfl⟩; rw [← hPP]; have HPP := qd hPP; clear hPP; go_enter Tryz.func101, Tryz.ntmps101; go_wp2_with fail; refine HH.out.mono ?_; rintro e w1 ⟨rfl, hb⟩; have HB := qd hb; clear hb; have g2 : w1.cell? ⟨2, 0, none⟩ = some (.slice (some ⟨gb, go, none⟩) 10 gc) := (cell_of_row w1 2 0 _ _ _ (((HP.out.keep HB.out).glob HE.out (by omega)).trans HG1.out)).trans rfl; have hs2 : 2 < w1.heap.size := World.block_lt_of_cell? w1 _ g2; go_wp2_with fail; generalize hW2 : World.alloc w1 _ = W2; obtain ⟨q, hq⟩ : ∃ q, q = w1.heap.size := ⟨_, rfl⟩; have hbx : tS W2 q x := by rw [← hW2, hq]; exact al w1 _
 have HG2 : Hid (Below w.heap.size w W2) := by rw [← hW2]; exact HB.out.alloc HB.out.size _
 have HQ0 : Hid (w.heap.size ≤ q) := by rw [hq]; exact HB.out.size
 rw [← hq]; clear hW2 hq g2 hs2; have HBX := qd hbx; have HP2 := qd (HP.out.keep HG2.out); clear hbx; refine (bj E s tv _ cz W2 HE.out HP2.out (tE HG3.out HP2.out.low (fun g o n c e => by injection e with e1; injection e1 with e1; injection e1 with e1 e2; omega)) mJ).mono ?_; rintro e w3 hpost; rw [HR0.out] at hpost; cases r0 with
 | ok a s1 =>
   obtain ⟨rfl, tv1, hp1, hf1⟩ := hpost; obtain ⟨hbx3, hqt3⟩ := hf1.keep HBX.out (fun e => by have := HP.out.pbLt; have := HQ0.out; omega) (HP.out.tvlt HQ0.out); have HBX3 : Hid (tS w3 q x) := hbx3; have HQT3 := qd hqt3; have HP3 := qd hp1; have HF3 := qd ((Fr.of_below HG2.out).trans hf1); clear hp1 hf1 hbx3 hqt3; obtain ⟨t0, t1, t2, t3, t4⟩ := HBX3.out.c; cases a with
   | some i =>
     have HC := qd (fL E s1 tv1 s.i 23 0 0 ⟨#[]⟩ (i + 1) (.slice none 0 0) [] w3 HE.out HP3.out (gp _ _ _ _ _) (by decide)); rw [HX.out, HXV.out] at HC; unfold tV at HC; have hi : (i : Int) < 9 := by
      have h9 : i < 9 := bJ HR0.out; omega
     unfold cl; obtain ⟨r4, HR4⟩ : ∃ r, Hid (put s.i 23 (⟨#[]⟩ : ByteArray) (i + 1) [] s1 = r) := ⟨_, rfl⟩; rw [HR4.out] at HC; have HE4 : Hid ((R.ok (some i) s1).next F = r4) := by unfold Hid; rw [← HF.out]; exact HR4.out
     rw [HE4.out] at HPP; go_wp2_with fail; refine HC.out.mono ?_; rintro e w4 hpost; have hpost := dn.close HF3.out hpost (fun g hg => by simp [Value.ownBlock] at hg); cases r4 with
     | ok k s4 =>
       obtain ⟨rfl, rest⟩ := hpost; have HRS := qd rest; clear rest; unfold ap; go_wp2_with fail; rw [HPP.out]; exact ⟨rfl, HRS.out⟩
     | err c p =>
       obtain ⟨rfl, rest⟩ := hpost; have HRS := qd rest; clear rest; unfold bi; go_wp2_with fail; refine ⟨rfl, ?_⟩; rw [HPP.out]; exact ⟨rfl, HRS.out⟩
     | stuck => exact hpost.elim
   | none =>
     unfold cl; obtain ⟨r4, HR4⟩ : ∃ r, Hid (ident E.K s1 = r) := ⟨_, rfl⟩; have HI := qd (jP E s1 tv1 w3.drew HE.out (HP3.out.keep br.drew)); rw [HR4.out] at HI; have HE4 : Hid ((R.ok none s1).next F = r4.next fun d s2 => put s.i 23 (tok E.K d).text 10 [] s2) := by unfold Hid; rw [← HF.out, ← HR4.out]; rfl
     rw [HE4.out] at HPP; have HQ : Hid (q ≠ E.pb) := fun e => by have := HP.out.pbLt; have := HQ0.out; omega
     go_wp2_with fail; refine wp_region_held_drew (S := (fun w' : World => w'.cell? ⟨q, 0, none⟩ = some (.int .i64 x.kind) ∧ w'.cell? ⟨q, 1, none⟩ = some (.int .i64 x.at1) ∧ w'.cell? ⟨q, 2, none⟩ = some (.int .i64 x.line) ∧ w'.cell? ⟨q, 3, none⟩ = some (.string x.text) ∧ w'.cell? ⟨q, 4, none⟩ = some (.int .i64 x.n))) (by kernel_rfl) ⟨t0, t1, t2, t3, t4⟩ (fun hHeld => ?_); refine wpAnyH_take (i := 0) (v := .pointer (some ⟨E.pb, 0, none⟩)) rfl (by kernel_rfl) (by kernel_rfl) (by kernel_rfl) (fun _ _ _ h => h) (Or.inl ⟨by rfl, fun w hSw => by
      (try dsimp only at hSw)
      go_simp⟩) hHeld ?_
     simp only [pu]; refine wpAnyH_take (i := 1) (v := .agg #[.int .i64 x.kind, .int .i64 x.at1, .int .i64 x.line, .string x.text, .int .i64 x.n]) rfl (by kernel_rfl) (by kernel_rfl) (by kernel_rfl) (fun _ _ _ h => h) (Or.inl ⟨by rfl, fun w hSw => by
      (try dsimp only at hSw)
      go_simp⟩) hHeld ?_
     simp only [pu]; refine wpAnyH_take (i := 2) (v := .pointer (some ⟨E.pb, 0, none⟩)) rfl (by kernel_rfl) (by kernel_rfl) (by kernel_rfl) (fun _ _ _ h => h) (Or.inl ⟨by rfl, fun w hSw => by
      (try dsimp only at hSw)
      go_simp⟩) hHeld ?_
     simp only [pu]; refine wpAnyH_ready (rs := [3]) (by kernel_rfl) (by simp) ?_; refine AllReadyH.cons rfl (fun K hK => ?_) AllReadyH.nil; rw [if_pos (by rfl)]; go_simp; refine HI.out.mono ?_; rintro e w4 hpost; cases r4 with
     | ok d s4 =>
       obtain ⟨rfl, tv4, hp4, hf4⟩ := hpost; obtain ⟨hbx4, hqt4⟩ := hf4.keep (show w3.drew.heap[q]? = some _ from HBX3.out) HQ.out HQT3.out; have HBX4 : Hid (tS w4 q x) := hbx4; have HQT4 := qd hqt4; have HP4 := qd hp4; have HF4 := qd hf4; have hS4 := tS.c hbx4; clear hp4 hf4 hbx4 hqt4; have HX5 : Hid (tok E.K d = (E.tk d).kt) := by
        have h := HR4.out; unfold ident at h
        split at h
        · injection h with h1 h2; rw [← h1]; exact E.tok HP3.out.i
        · cases h
       obtain ⟨y, HY⟩ : ∃ y, Hid (E.tk d = y) := ⟨_, rfl⟩; rw [HY.out] at HX5; have HYV : Hid (y.val = .agg #[.int .i64 y.kind, .int .i64 y.at1, .int .i64 y.line, .string y.text, .int .i64 y.n]) := rfl; have hfl3 := gR y.kind y.at1 y.line y.text y.n; have HSZ : Hid (y.text.size ≤ 1000000) := by
        rw [← HY.out]; exact aR HE.out d
       obtain ⟨r5, HR5⟩ : ∃ r, Hid (put s.i 23 y.text 10 [] s4 = r) := ⟨_, rfl⟩; have HE5 : Hid ((R.ok d s4).next (fun d s2 => put s.i 23 (tok E.K d).text 10 [] s2) = r5) := by
        unfold Hid; show put s.i 23 (tok E.K d).text 10 [] s4 = r5; rw [HX5.out]; exact HR5.out
       rw [HE5.out] at HPP; have HC := qd (fL E s4 tv4 s.i 23 0 0 y.text 10 (.slice none 0 0) [] w4 HE.out HP4.out (gp _ _ _ _ _) HSZ.out); rw [HX.out, HXV.out, HR5.out] at HC; unfold tV at HC; simp only [HY.out, HYV.out]; refine hK.out _ _ hS4 (fun hHeld => ?_); clear hK K; refine wpAnyH_take (i := 4) (v := .string y.text) rfl (by kernel_rfl) (by kernel_rfl) (by kernel_rfl) (fun _ _ _ h => h) (Or.inl ⟨by rfl, fun w hSw => by
        (try dsimp only at hSw)
        go_simp⟩) hHeld ?_
       simp only [pu]; refine wpAnyH_take (i := 5) (v := .agg #[.int .i64 23, .int .i64 0, .int .i64 0, .string y.text, .int .i64 10, .slice none 0 0]) rfl (by kernel_rfl) (by kernel_rfl) (by kernel_rfl) (fun _ _ _ h => h) (Or.inl ⟨by rfl, fun w hSw => by
        (try dsimp only at hSw)
        go_simp⟩) hHeld ?_
       simp only [pu]; refine wpAnyH_ready (rs := [6]) (by kernel_rfl) (by simp) ?_; refine AllReadyH.cons rfl (fun K hK => ?_) AllReadyH.nil; rw [if_pos (by rfl)]; go_simp; refine HC.out.mono ?_; rintro e w5 hpost; have hpost := dn.close (Fr.refl E tv4 w4) hpost (fun g hg => by simp [Value.ownBlock] at hg); cases r5 with
       | ok k s5 =>
         obtain ⟨rfl, tv5, hp5, hf5⟩ := hpost; obtain ⟨hbx5, -⟩ := hf5.keep (show w4.heap[q]? = some _ from HBX4.out) HQ.out HQT4.out; have HP5 := qd hp5; have HF5 := qd hf5; have hS5 := tS.c hbx5; clear hp5 hf5 hbx5; unfold ap; refine hK.out _ _ hS5 (fun hHeld => ?_); clear hK K; refine wpAnyH_take (i := 7) (v := .int .i64 k) rfl (by kernel_rfl) (by kernel_rfl) (by kernel_rfl) (fun _ _ _ h => h) (Or.inl ⟨by rfl, fun w hSw => by
          (try dsimp only at hSw)
          go_simp⟩) hHeld ?_
         change wpAnyH _ _ _ _ _ _ _ (Act.put _ (some 2) _) _; simp only [pu]; refine wpAnyH_done (by kernel_rfl) ?_ _; go_wp2_with fail; rw [HPP.out]; exact ⟨rfl, tv5, HP5.out, ((HF3.out.trans (Fr.of_below br.drew)).trans HF4.out).trans HF5.out⟩
       | err c p =>
         obtain ⟨rfl, tv5, hf5⟩ := hpost; unfold bi; refine ⟨rfl, ?_⟩; rw [HPP.out]; exact ⟨rfl, tv5, ((HF3.out.trans (Fr.of_below br.drew)).trans HF4.out).trans hf5⟩
       | stuck => exact hpost.elim
     | err c p =>
       obtain ⟨rfl, tv4, hf4⟩ := hpost; unfold bi; refine ⟨rfl, ?_⟩; rw [HPP.out]; exact ⟨rfl, tv4, (HF3.out.trans (Fr.of_below br.drew)).trans hf4⟩
     | stuck => exact hpost.elim
 | err c p =>
   obtain ⟨rfl, tv1, hf1⟩ := hpost; have HF3 := qd ((Fr.of_below HG2.out).trans hf1); clear hf1; unfold bi; go_wp2_with fail; refine ⟨rfl, ?_⟩; rw [HPP.out]; exact ⟨rfl, tv1, HF3.out⟩
 | stuck => exact hpost.elim
set_option maxRecDepth 100000 in
theorem pW (E : aN) (s : St) (tv : TV) (w : World) (hE : ax E) (hp : PI E s tv w) :
 Calls Tryz.prog 202 #[.pointer (some ⟨E.pb, 0, none⟩)] w fun e w' => e = .returned (ap (eI E.K s)) ∧ Below w.heap.size w w' := by
 have HS := fun (t : ByteArray) (ht : 0 < t.size) (W : World) (hW : Below w.heap.size w W) => bK E s tv 0 t W hE (hp.keep hW) (by omega) ht
 have HSS := qd HS; clear HS hp hE; unfold eI; generalize hr1 : aJ E.K 0 ⟨#[63]⟩ s = r1; generalize hr2 : aJ E.K 0 ⟨#[63, 63]⟩ s = r2; have HR1 := qd hr1; have HR2 := qd hr2; clear hr1 hr2; have hfin : Hid (∀ W, Below w.heap.size w W → Below w.heap.size w W) := fun _ h => h
 cases r1 with
 | true =>
   go_enter Tryz.func202, Tryz.ntmps202; go_wp2_with fail; generalize hW : World.alloc w _ = W1; have HG : Hid (Below w.heap.size w W1) := by rw [← hW]; exact br.alloc (Nat.le_refl _) _
   have c0 : W1.cell? ⟨w.heap.size, 0, none⟩ = some (.string ⟨#[63]⟩) := by rw [← hW]; simp [go_sem]
   have hz : w.heap.size < W1.heap.size := by rw [← hW]; simp [go_sem]
   clear hW; refine wp_loop_rounds 1 ?_; rw [rounds_succ]; go_wp2_with fail; have h := HSS.out ⟨#[63]⟩ (by decide) _ HG.out; rw [HR1.out] at h; have HH := qd h; clear h; refine HH.out.mono ?_; rintro e w2 ⟨rfl, hb2⟩; have HB2 := qd (HG.out.trans (hb2.mono HG.out.size)); clear hb2; go_wp2_with fail; go_ret; exact ⟨rfl, HB2.out⟩
 | false =>
   cases r2 with
   | true =>
     go_enter Tryz.func202, Tryz.ntmps202; go_wp2_with fail; generalize hW : World.alloc w _ = W1; have HG : Hid (Below w.heap.size w W1) := by rw [← hW]; exact br.alloc (Nat.le_refl _) _
     have c0 : W1.cell? ⟨w.heap.size, 0, none⟩ = some (.string ⟨#[63]⟩) := by rw [← hW]; simp [go_sem]
     have c1 : W1.cell? ⟨w.heap.size, 1, none⟩ = some (.string ⟨#[63, 63]⟩) := by rw [← hW]; simp [go_sem]
     have hz : w.heap.size < W1.heap.size := by rw [← hW]; simp [go_sem]
     clear hW; refine wp_loop_rounds 2 ?_; rw [rounds_succ]; go_wp2_with fail; have h := HSS.out ⟨#[63]⟩ (by decide) _ HG.out; rw [HR1.out] at h; have HH := qd h; clear h; refine HH.out.mono ?_; rintro e w2 ⟨rfl, hb2⟩; have HB2 := qd (HG.out.trans (hb2.mono HG.out.size)); have c1' := (hb2.cell (p := ⟨w.heap.size, 1, none⟩) hz).trans c1; clear hb2 c0 c1; go_wp2_with fail; rw [rounds_succ]; go_wp2_with fail; have h := HSS.out ⟨#[63, 63]⟩ (by decide) _ HB2.out; rw [HR2.out] at h; have HH2 := qd h; clear h; refine HH2.out.mono ?_; rintro e w3 ⟨rfl, hb3⟩; have HB3 := qd (HB2.out.trans (hb3.mono HB2.out.size)); clear hb3; go_wp2_with fail; go_ret; exact ⟨rfl, HB3.out⟩
   | false =>
     go_enter Tryz.func202, Tryz.ntmps202; go_wp2_with fail; generalize hW : World.alloc w _ = W1; have HG : Hid (Below w.heap.size w W1) := by rw [← hW]; exact br.alloc (Nat.le_refl _) _
     have c0 : W1.cell? ⟨w.heap.size, 0, none⟩ = some (.string ⟨#[63]⟩) := by rw [← hW]; simp [go_sem]
     have c1 : W1.cell? ⟨w.heap.size, 1, none⟩ = some (.string ⟨#[63, 63]⟩) := by rw [← hW]; simp [go_sem]
     have hz : w.heap.size < W1.heap.size := by rw [← hW]; simp [go_sem]
     clear hW; refine wp_loop_rounds 3 ?_; rw [rounds_succ]; go_wp2_with fail; have h := HSS.out ⟨#[63]⟩ (by decide) _ HG.out; rw [HR1.out] at h; have HH := qd h; clear h; refine HH.out.mono ?_; rintro e w2 ⟨rfl, hb2⟩; have HB2 := qd (HG.out.trans (hb2.mono HG.out.size)); have c1' := (hb2.cell (p := ⟨w.heap.size, 1, none⟩) hz).trans c1; clear hb2 c0 c1; go_wp2_with fail; rw [rounds_succ]; go_wp2_with fail; have h := HSS.out ⟨#[63, 63]⟩ (by decide) _ HB2.out; rw [HR2.out] at h; have HH2 := qd h; clear h; refine HH2.out.mono ?_; rintro e w3 ⟨rfl, hb3⟩; have HB3 := qd (HB2.out.trans (hb3.mono HB2.out.size)); clear hb3; go_wp2_with fail; rw [rounds_succ]; go_wp2_with fail; go_ret; exact ⟨rfl, HB3.out⟩
structure IH (E : aN) (m : Nat) : Prop where
 bin : ∀ (k : Nat) (s : St) (tv : TV) (w : World), k ≤ 10 → PI E s tv w → 20 * (E.K.length - s.i) + (13 - k) ≤ m → Calls Tryz.prog 168 #[.pointer (some ⟨E.pb, 0, none⟩), .int .i64 k] w (aQ E tv w ap ((bf E.K m).bin k s))
 unary : ∀ (s : St) (tv : TV) (w : World), PI E s tv w → 20 * (E.K.length - s.i) + 2 ≤ m → Calls Tryz.prog 186 #[.pointer (some ⟨E.pb, 0, none⟩)] w (aQ E tv w ap ((bf E.K m).unary s))
 ref : ∀ (s : St) (tv : TV) (w : World), PI E s tv w → 20 * (E.K.length - s.i) + 1 ≤ m → Calls Tryz.prog 169 #[.pointer (some ⟨E.pb, 0, none⟩)] w (aQ E tv w ap ((bf E.K m).ref s))
 inn : ∀ (s : St) (tv : TV) (w : World), PI E s tv w → 20 * (E.K.length - s.i) + 2 ≤ m → Calls Tryz.prog 212 #[.pointer (some ⟨E.pb, 0, none⟩)] w (aQ E tv w ap ((bf E.K m).inn s))
 seq : ∀ (s : St) (tv : TV) (w : World), PI E s tv w → 20 * (E.K.length - s.i) + 16 ≤ m → Calls Tryz.prog 105 #[.pointer (some ⟨E.pb, 0, none⟩)] w (aQ E tv w ap ((bf E.K m).seq s))
 stmt : ∀ (s : St) (tv : TV) (w : World), PI E s tv w → 20 * (E.K.length - s.i) + 14 ≤ m → Calls Tryz.prog 171 #[.pointer (some ⟨E.pb, 0, none⟩)] w (aQ E tv w ap ((bf E.K m).stmt s))
theorem PI.ik {E : aN} {s : St} {tv : TV} {w : World} (h : PI E s tv w) : s.i < E.K.length := by rw [E.lenK]; exact h.i
theorem um : ∀ args w, (callFunc 186 args).run Tryz.prog w = .ok (.enter 186 args) w := fun args w => by kernel_rfl
theorem sV : ∀ args w, (callFunc 169 args).run Tryz.prog w = .ok (.enter 169 args) w := fun args w => by kernel_rfl
theorem un : ∀ args w, (callFunc 171 args).run Tryz.prog w = .ok (.enter 171 args) w := fun args w => by kernel_rfl
theorem rd : ∀ args w, (callFunc 107 args).run Tryz.prog w = .ok (.enter 107 args) w := fun args w => by kernel_rfl
theorem uo : ∀ args w, (callFunc 101 args).run Tryz.prog w = .ok (.enter 101 args) w := fun args w => by kernel_rfl
theorem sU : ∀ args w, (callFunc 212 args).run Tryz.prog w = .ok (.enter 212 args) w := fun args w => by kernel_rfl
set_option maxRecDepth 100000 in
theorem iU {E : aN} {m : Nat} (h : IH E m) (s : St) (tv : TV) (w : World) (hp : PI E s tv w) (hn : 20 * (E.K.length - s.i) + 13 ≤ m) : Calls Tryz.prog 145 #[.pointer (some ⟨E.pb, 0, none⟩)] w (aQ E tv w ap (expr (bf E.K m) s)) := by
 have HC := qd (h.bin 0 s tv w (by omega) hp (by omega)); clear h hp hn; unfold expr; obtain ⟨r, HR⟩ : ∃ r, Hid ((bf E.K m).bin 0 s = r) := ⟨_, rfl⟩; rw [HR.out] at HC ⊢; clear HR; obtain ⟨PP, hPP⟩ : ∃ PP, PP = aQ E tv w ap r := ⟨_, rfl⟩; rw [← hPP]; have HPP := qd hPP; clear hPP; go_enter Tryz.func145, Tryz.ntmps145; go_wp2_with fail; refine HC.out.mono ?_; rintro e w1 hpost; cases r with
 | ok k s1 =>
   obtain ⟨rfl, rest⟩ := hpost; have HRS := qd rest; clear rest; unfold ap; go_wp2_with fail; rw [HPP.out]; exact ⟨rfl, HRS.out⟩
 | err c p =>
   obtain ⟨rfl, rest⟩ := hpost; have HRS := qd rest; clear rest; unfold bi; go_wp2_with fail; refine ⟨rfl, ?_⟩; rw [HPP.out]; exact ⟨rfl, HRS.out⟩
 | stuck => exact hpost.elim
theorem jV {E : aN} {m : Nat} (hE : ax E) (h : IH E m) (s : St) (hi : s.i < E.K.length) (hd : 0 ≤ s.deep) (hn : 20 * (E.K.length - s.i) + 13 ≤ m) : lg E 145 #[.pointer (some ⟨E.pb, 0, none⟩)] #[] (expr (bf E.K m)) s where
 deep k s' e := ((au hE.ends m).bin 0 s (by omega) hi hd (by omega)).ok e |>.1.deep
 eg := sW
 does tv w hp := iU h s tv w hp hn
theorem nI {E : aN} {m : Nat} (hE : ax E) (s : St) (hi : s.i < E.K.length) (hd : 0 ≤ s.deep) (hn : 20 * (E.K.length - s.i) + 13 ≤ m) (hx : ∀ tv w, PI E s tv w → Calls Tryz.prog 107 #[.pointer (some ⟨E.pb, 0, none⟩)] w (aQ E tv w ap (inner (bf E.K m) s))) : lg E 107 #[.pointer (some ⟨E.pb, 0, none⟩)] #[] (inner (bf E.K m)) s where
 deep k s' e := by
  have := cA (au hE.ends m) (Lt.refl hi hd) hn (Q := fun _ s1 => s1.deep = s.deep) (fun _ _ L _ => L.deep); exact this.ok e
 eg := rd
 does := hx
set_option maxRecDepth 100000 in
theorem dh {E : aN} {m : Nat} (hE : ax E) (h : IH E m) (s : St) (tv : TV) (w : World) (hp : PI E s tv w) (hn : 20 * (E.K.length - s.i) + 13 ≤ m) : Calls Tryz.prog 107 #[.pointer (some ⟨E.pb, 0, none⟩)] w (aQ E tv w ap (inner (bf E.K m) s)) := by
 have hmf : ∀ (fn : Fn) (first cap : Array Value) (w : World), (Instr.makeFunc fn first cap).run Tryz.prog w = .ok (.func fn first cap) w := fun _ _ _ _ => rfl
 have HC := qd (gH E s tv false 145 #[.pointer (some ⟨E.pb, 0, none⟩)] #[] (expr (bf E.K m)) w hE hp (jV hE h { s with mid := false } hp.ik hp.d0 hn)); clear h hp hn hE; unfold inner; obtain ⟨r, HR⟩ : ∃ r, Hid (plainly false (expr (bf E.K m)) s = r) := ⟨_, rfl⟩; rw [HR.out] at HC ⊢; clear HR; obtain ⟨PP, hPP⟩ : ∃ PP, PP = aQ E tv w ap r := ⟨_, rfl⟩; rw [← hPP]; have HPP := qd hPP; clear hPP; go_enter Tryz.func107, Tryz.ntmps107; go_wp2_with fail; refine HC.out.mono ?_; rintro e w1 hpost; cases r with
 | ok k s1 =>
   obtain ⟨rfl, rest⟩ := hpost; have HRS := qd rest; clear rest; unfold ap; go_wp2_with fail; rw [HPP.out]; exact ⟨rfl, HRS.out⟩
 | err c p =>
   obtain ⟨rfl, rest⟩ := hpost; have HRS := qd rest; clear rest; unfold bi; go_wp2_with fail; refine ⟨rfl, ?_⟩; rw [HPP.out]; exact ⟨rfl, HRS.out⟩
 | stuck => exact hpost.elim
structure Bd where
 n : Nat
 hs : Nat → Prop
abbrev Bd.at (n : Nat) : Bd := ⟨n, fun _ => False⟩
structure tT (E : aN) (b : Bd) : Prop where
 p : E.pb < b.n
 t : E.tb < b.n
 m : E.mb < b.n
 k : E.kb < b.n
 a : E.ab < b.n
 B : E.B ≤ b.n
structure cH (E : aN) (b : Bd) (tv : TV) (w : World) (tv' : TV) (w' : World) : Prop where
 out : am (fun k => k = E.pb ∨ tv.v.ownBlock = some k ∨ b.n ≤ k) w w'
 tvb : ∀ g, tv'.v.ownBlock = some g → tv.v.ownBlock = some g ∨ b.n ≤ g
 ks : ∀ g, tv'.ks g → tv.ks g ∨ b.n ≤ g ∨ b.hs g
theorem cH.refl (E : aN) (b : Bd) (tv : TV) (w : World) : cH E b tv w tv w := ⟨am.refl _ _, fun _ h => .inl h, fun _ h => .inl h⟩
theorem cH.of_below {E : aN} {b : Bd} {tv : TV} {w w' : World} (h : Below w.heap.size w w') : cH E b tv w tv w' := ⟨am.of_below h, fun _ h => .inl h, fun _ h => .inl h⟩
theorem cH.trans {E : aN} {bb : Bd} {ta tb tc : TV} {a b c : World} (h : cH E bb ta a tb b) (k : cH E bb tb b tc c) : cH E bb ta a tc c :=
 ⟨h.out.trans k.out (fun x hx => by
  rcases hx with hx | hx | hx
  · exact .inl (.inl hx)
  · rcases h.tvb x hx with h1 | h1
    · exact .inl (.inr (.inl h1))
    · exact .inl (.inr (.inr h1))
  · exact .inl (.inr (.inr hx))), fun g hg => by
  rcases k.tvb g hg with h1 | h1
  · exact h.tvb g h1
  · exact .inr h1, fun g hg => by
  rcases k.ks g hg with h1 | h1
  · exact h.ks g h1
  · exact .inr h1⟩
theorem cH.of {E : aN} {b : Bd} {hs : Nat → Prop} {tv tv' : TV} {w w' : World} (h : gh E hs tv w tv' w') (hb : b.n ≤ w.heap.size) (hh : ∀ g, hs g → b.n ≤ g ∨ b.hs g) : cH E b tv w tv' w' :=
 ⟨h.out.mono (fun x hx => .inl (hx.elim .inl (fun h => .inr (.inl h)))), fun g hg => (h.tvb g hg).imp id (Nat.le_trans hb), fun g hg => by
  rcases h.ks g hg with h1 | h1 | h1
  · exact .inl h1
  · exact .inr (.inl (Nat.le_trans hb h1))
  · exact .inr (hh g h1)⟩
theorem cH.to {E : aN} {tv tv' : TV} {w w' : World} (h : cH E (.at w.heap.size) tv w tv' w') : Fr E tv w tv' w' :=
 ⟨h.out.mono (fun x hx => by
  rcases hx with hx | hx | hx
  · exact .inl (.inl hx)
  · exact .inl (.inr hx)
  · exact .inr hx), h.tvb, fun g hg => (h.ks g hg).elim .inl (fun h => .inr (h.elim .inl (fun h => h.elim)))⟩
def d6 {α : Type} (E : aN) (b : Bd) (tv : TV) (w : World) (V : α → Value → TV → World → Prop) (r : R α) (e : Ending) (w' : World) : Prop :=
 match r with
 | .ok a s' => ∃ v tv', e = .returned v ∧ V a v tv' w' ∧ PI E s' tv' w' ∧ cH E b tv w tv' w'
 | .err c p => ∃ tv', e = bi c (E.tk p).at1 ∧ cH E b tv w tv' w'
 | .stuck => False
def VI {α : Type} (f : α → Value) (a : α) (v : Value) (_ : TV) (_ : World) : Prop := v = f a
def VL (E : aN) (b : Bd) (l : List Int) (v : Value) (tv : TV) (w : World) : Prop := Ow w E.B 3 1 bC v l ∧ ∀ g, v.ownBlock = some g → b.n ≤ g ∧ ¬ tv.ks g
structure aE {α : Type} (E : aN) (b : Bd) (V : α → Value → TV → World → Prop) (PP : Ending → World → Prop) (s : St) (tv : TV) (w : World) (r : R α) : Prop where
 base : tT E b
 le : b.n ≤ w.heap.size
 pi : PI E s tv w
 out : ∀ e w', d6 E b tv w V r e w' → PP e w'
section
variable {α γ : Type} {E : aN} {b : Bd} {V : α → Value → TV → World → Prop} {PP : Ending → World → Prop} {s s1 : St} {tv tv1 : TV} {w w1 W : World} {r r1 : R α}
theorem hU {p : Pm γ} {g : γ → Pm α} {s s1 : St} {a : γ} (h : p s = .ok a s1) : (p >>= g) s = g a s1 := by
 show (p s).next _ = _; rw [h]; rfl
theorem gf {p : Pm γ} {g : γ → Pm α} {s : St} {c : Int} {x : Nat} (h : p s = .err c x) : (p >>= g) s = .err c x := by
 show (p s).next _ = _; rw [h]; rfl
theorem hY (h : PI E s tv w) : tT E (.at w.heap.size) := ⟨af h.p, af h.t, af h.m, af h.k, af h.a, h.bl⟩
theorem aE.fr (h : aE E b V PP s tv w r) (hf : cH E b tv w tv1 w1) (hp : PI E s1 tv1 w1) (hr : r = r1) : aE E b V PP s1 tv1 w1 r1 :=
 ⟨h.base, Nat.le_trans h.le hf.out.size, hp, fun e w' hpost => h.out e w' (by
  subst hr; unfold d6 at *; cases r with
  | ok a s' =>
    obtain ⟨v, tv', h1, h2, h3, h4⟩ := hpost; exact ⟨v, tv', h1, h2, h3, hf.trans h4⟩
  | err c p =>
    obtain ⟨tv', h1, h2⟩ := hpost; exact ⟨tv', h1, hf.trans h2⟩
  | stuck => exact hpost)⟩
theorem aE.below (h : aE E b V PP s tv w r) (hb : Below w.heap.size w w1) : aE E b V PP s tv w1 r := h.fr (cH.of_below hb) (h.pi.keep hb) rfl
theorem aE.to (h : aE E b V PP s tv w r) (hr : r = r1) : aE E b V PP s tv w r1 := by subst hr; exact h
theorem aE.iT {p q : Pm α} (h : aE E b V PP s tv w ((if true = true then p else q : Pm α) s1)) : aE E b V PP s tv w (p s1) := h
theorem aE.iF {p q : Pm α} (h : aE E b V PP s tv w ((if false = true then p else q : Pm α) s1)) : aE E b V PP s tv w (q s1) := h
theorem aE.ite {c : Prop} [Decidable c] {p q : Pm α} (h : aE E b V PP s tv w ((if c then p else q : Pm α) s1)) (hc : c) : aE E b V PP s tv w (p s1) := by rw [if_pos hc] at h; exact h
theorem aE.ife {c : Prop} [Decidable c] {p q : Pm α} (h : aE E b V PP s tv w ((if c then p else q : Pm α) s1)) (hc : ¬ c) : aE E b V PP s tv w (q s1) := by rw [if_neg hc] at h; exact h
theorem aE.start {r : R γ} {f : γ → Value} {N : Nat} {args : Array Value} (hp : PI E s tv w) (h : ∀ PP : Ending → World → Prop, aE E (.at w.heap.size) (VI f) PP s tv w r → Calls Tryz.prog N args w PP) : Calls Tryz.prog N args w (aQ E tv w f r) :=
 h _ ⟨hY hp, Nat.le_refl _, hp, fun e w' hpost => by
   unfold d6 at hpost; unfold aQ; cases r with
   | ok a s' =>
     obtain ⟨v, tv', h1, h2, h3, h4⟩ := hpost; exact ⟨by rw [h1, h2], tv', h3, h4.to⟩
   | err c p =>
     obtain ⟨tv', h1, h2⟩ := hpost; exact ⟨h1, tv', h2.to⟩
   | stuck => exact hpost⟩
theorem aE.startH {r : R γ} {f : γ → Value} {hs : Nat → Prop} {N : Nat} {args : Array Value} (hp : PI E s tv w) (h : ∀ PP : Ending → World → Prop, aE E ⟨w.heap.size, hs⟩ (VI f) PP s tv w r → Calls Tryz.prog N args w PP) : Calls Tryz.prog N args w (dn E hs tv w f r) :=
 h _ ⟨⟨af hp.p, af hp.t, af hp.m, af hp.k, af hp.a, hp.bl⟩, Nat.le_refl _, hp, fun e w' hpost => by
   have hto : ∀ tv', cH E ⟨w.heap.size, hs⟩ tv w tv' w' → gh E hs tv w tv' w' := fun tv' h => ⟨h.out.mono (fun x hx => by
    rcases hx with hx | hx | hx
    · exact .inl (.inl hx)
    · exact .inl (.inr hx)
    · exact .inr hx), h.tvb, h.ks⟩
   unfold d6 at hpost; unfold dn; cases r with
   | ok a s' =>
     obtain ⟨v, tv', h1, h2, h3, h4⟩ := hpost; exact ⟨by rw [h1, h2], tv', h3, hto _ h4⟩
   | err c p =>
     obtain ⟨tv', h1, h2⟩ := hpost; exact ⟨h1, tv', hto _ h2⟩
   | stuck => exact hpost⟩
theorem aE.callH {p : Pm γ} {s0 : St} {g : γ → Pm α} {val : γ → Value} {hs : Nat → Prop} {N : Nat} {args : Array Value} {cG : γ → St → Prop} {Q' : Ending → World → Prop} (HN : aE E b V PP s tv w r) (hbw : Below w.heap.size w W) (hc : Calls Tryz.prog N args W (dn E hs tv W val (p s0))) (hh : ∀ g, hs g → b.n ≤ g ∨ b.hs g) (hT : ak p s0 cG)
 (hok : ∀ a s1 tv1 w1, Hid (p s0 = .ok a s1) → cG a s1 → gh E hs tv w tv1 w1 → aE E b V PP s1 tv1 w1 (g a s1) → Q' (.returned (val a)) w1)
 (hr : r = (p >>= g) s0 := by exact rfl) (herr : ∀ c x w1, PP (bi c x) w1 → Q' (bi c x) w1 := by exact fun _ _ _ hh => ⟨rfl, hh⟩) : Calls Tryz.prog N args W Q' := by
 refine hc.mono fun e w1 hpost => ?_
 have hle : b.n ≤ W.heap.size := Nat.le_trans HN.le hbw.size; unfold dn at hpost; unfold ak at hT; subst hr; cases hq : p s0 with
 | ok a s1 =>
   rw [hq] at hpost hT; obtain ⟨rfl, tv1, h1, h2⟩ := hpost; have hf : cH E b tv w tv1 w1 := (cH.of_below hbw).trans (cH.of h2 hle hh); exact hok a s1 tv1 w1 hq hT (gh.after (Fr.of_below hbw) h2) (HN.fr hf h1 (hU hq))
 | err c x =>
   rw [hq] at hpost; obtain ⟨rfl, tv1, h2⟩ := hpost; refine herr _ _ _ (HN.out _ _ ?_); rw [gf hq]; exact ⟨tv1, rfl, (cH.of_below hbw).trans (cH.of h2 hle hh)⟩
 | stuck => rw [hq] at hpost; exact hpost.elim
theorem aE.call {p : Pm γ} {s0 : St} {g : γ → Pm α} {val : γ → Value} {N : Nat} {args : Array Value} {cG : γ → St → Prop} {Q' : Ending → World → Prop} (HN : aE E b V PP s tv w r) (hbw : Below w.heap.size w W) (hc : Calls Tryz.prog N args W (aQ E tv W val (p s0))) (hT : ak p s0 cG)
 (hok : ∀ a s1 tv1 w1, Hid (p s0 = .ok a s1) → cG a s1 → Fr E tv w tv1 w1 → aE E b V PP s1 tv1 w1 (g a s1) → Q' (.returned (val a)) w1)
 (hr : r = (p >>= g) s0 := by exact rfl) (herr : ∀ c x w1, PP (bi c x) w1 → Q' (bi c x) w1 := by exact fun _ _ _ hh => ⟨rfl, hh⟩) : Calls Tryz.prog N args W Q' := by
 refine hc.mono fun e w1 hpost => ?_
 have hle : b.n ≤ W.heap.size := Nat.le_trans HN.le hbw.size; unfold aQ at hpost; unfold ak at hT; subst hr; cases hq : p s0 with
 | ok a s1 =>
   rw [hq] at hpost hT; obtain ⟨rfl, tv1, h1, h2⟩ := hpost; have hf : cH E b tv w tv1 w1 := (cH.of_below hbw).trans (cH.of h2 hle (fun g hg => hg.elim)); exact hok a s1 tv1 w1 hq hT ((Fr.of_below hbw).trans h2) (HN.fr hf h1 (hU hq))
 | err c x =>
   rw [hq] at hpost; obtain ⟨rfl, tv1, h2⟩ := hpost; refine herr _ _ _ (HN.out _ _ ?_); rw [gf hq]; exact ⟨tv1, rfl, (cH.of_below hbw).trans (cH.of h2 hle (fun g hg => hg.elim))⟩
 | stuck => rw [hq] at hpost; exact hpost.elim
theorem aE.last {f : α → Value} {N : Nat} {args : Array Value} {Q' : Ending → World → Prop} {r0 : R α} (HN : aE E b (VI f) PP s tv w r) (hbw : Below w.heap.size w W) (hc : Calls Tryz.prog N args W (aQ E tv W f r0))
 (hok : ∀ a w1, PP (.returned (f a)) w1 → Q' (.returned (f a)) w1)
 (hr : r = r0 := by exact rfl) (herr : ∀ c x w1, PP (bi c x) w1 → Q' (bi c x) w1 := by exact fun _ _ _ hh => ⟨rfl, hh⟩) : Calls Tryz.prog N args W Q' := by
 refine hc.mono fun e w1 hpost => ?_
 have hle : b.n ≤ W.heap.size := Nat.le_trans HN.le hbw.size; subst hr; unfold aQ at hpost; cases r with
 | ok a s1 =>
   obtain ⟨rfl, tv1, h1, h2⟩ := hpost; exact hok _ _ (HN.out _ _ ⟨_, tv1, rfl, rfl, h1, (cH.of_below hbw).trans (cH.of h2 hle (fun g hg => hg.elim))⟩)
 | err c x =>
   obtain ⟨rfl, tv1, h2⟩ := hpost; exact herr _ _ _ (HN.out _ _ ⟨tv1, rfl, (cH.of_below hbw).trans (cH.of h2 hle (fun g hg => hg.elim))⟩)
 | stuck => exact hpost.elim
theorem aE.put {g : Int → Pm α} {t : Nat} {kind a l : Int} {text : ByteArray} {n : Int} {kv : Value} {kids : List Int} {Q' : Ending → World → Prop} (HN : aE E b V PP s tv w r) (hE : ax E) (hbw : Below w.heap.size w W) (hk : Ow W E.B 3 1 bC kv kids) (hkb : ∀ g, kv.ownBlock = some g → b.n ≤ g ∨ b.hs g) (hsz : text.size ≤ 1000000)
 (hok : ∀ k s1 tv1 w1, Hid (Go.Proofs.YthkebhjaaikopaaGreatDoor.put t kind text n kids s = .ok k s1) → gh E (fun g => kv.ownBlock = some g) tv w tv1 w1 → aE E b V PP s1 tv1 w1 (g k s1) → Q' (.returned (.int .i64 k)) w1)
 (hr : r = (Go.Proofs.YthkebhjaaikopaaGreatDoor.put t kind text n kids >>= g) s := by exact rfl) (herr : ∀ c x w1, PP (bi c x) w1 → Q' (bi c x) w1 := by exact fun _ _ _ hh => ⟨rfl, hh⟩) : Calls Tryz.prog 24 #[.pointer (some ⟨E.pb, 0, none⟩), (E.tk t).val, tV kind a l text n kv] W Q' := by
 refine (fL E s tv t kind a l text n kv kids W hE (HN.pi.keep hbw) hk hsz).mono fun e w1 hpost => ?_
 have hle : b.n ≤ W.heap.size := Nat.le_trans HN.le hbw.size; subst hr; unfold dn at hpost; cases hq : Go.Proofs.YthkebhjaaikopaaGreatDoor.put t kind text n kids s with
 | ok a s1 =>
   rw [hq] at hpost; obtain ⟨rfl, tv1, h1, h2⟩ := hpost; have hf : cH E b tv w tv1 w1 := (cH.of_below hbw).trans (cH.of h2 hle hkb); exact hok a s1 tv1 w1 hq (gh.after (Fr.of_below hbw) h2) (HN.fr hf h1 (hU hq))
 | err c x =>
   rw [hq] at hpost; obtain ⟨rfl, tv1, h2⟩ := hpost; refine herr _ _ _ (HN.out _ _ ?_); rw [gf hq]; exact ⟨tv1, rfl, (cH.of_below hbw).trans (cH.of h2 hle hkb)⟩
 | stuck => rw [hq] at hpost; exact hpost.elim
theorem aE.putLast {t : Nat} {kind a l : Int} {text : ByteArray} {n : Int} {kv : Value} {kids : List Int} {Q' : Ending → World → Prop} {r : R Int} (HN : aE E b (VI ap) PP s tv w r) (hE : ax E) (hbw : Below w.heap.size w W) (hk : Ow W E.B 3 1 bC kv kids) (hkb : ∀ g, kv.ownBlock = some g → b.n ≤ g ∨ b.hs g) (hsz : text.size ≤ 1000000)
 (hok : ∀ k w1, PP (.returned (.int .i64 k)) w1 → Q' (.returned (.int .i64 k)) w1)
 (hr : r = Go.Proofs.YthkebhjaaikopaaGreatDoor.put t kind text n kids s := by exact rfl) (herr : ∀ c x w1, PP (bi c x) w1 → Q' (bi c x) w1 := by exact fun _ _ _ hh => ⟨rfl, hh⟩) : Calls Tryz.prog 24 #[.pointer (some ⟨E.pb, 0, none⟩), (E.tk t).val, tV kind a l text n kv] W Q' := by
 refine (fL E s tv t kind a l text n kv kids W hE (HN.pi.keep hbw) hk hsz).mono fun e w1 hpost => ?_
 have hle : b.n ≤ W.heap.size := Nat.le_trans HN.le hbw.size; subst hr; unfold dn at hpost; cases hq : Go.Proofs.YthkebhjaaikopaaGreatDoor.put t kind text n kids s with
 | ok k s1 =>
   rw [hq] at hpost; obtain ⟨rfl, tv1, h1, h2⟩ := hpost; refine hok _ _ (HN.out _ _ ?_); rw [hq]; exact ⟨_, tv1, rfl, rfl, h1, (cH.of_below hbw).trans (cH.of h2 hle hkb)⟩
 | err c x =>
   rw [hq] at hpost; obtain ⟨rfl, tv1, h2⟩ := hpost; refine herr _ _ _ (HN.out _ _ ?_); rw [hq]; exact ⟨tv1, rfl, (cH.of_below hbw).trans (cH.of h2 hle hkb)⟩
 | stuck => rw [hq] at hpost; exact hpost.elim
theorem aE.quiet {v : Value} {N : Nat} {args : Array Value} {Q' : Ending → World → Prop} (HN : aE E b V PP s tv w r) (hbw : Below w.heap.size w W) (hc : Calls Tryz.prog N args W fun e w' => e = .returned v ∧ Below W.heap.size W w')
 (hok : ∀ w1, Below w.heap.size w w1 → aE E b V PP s tv w1 r → Q' (.returned v) w1) : Calls Tryz.prog N args W Q' :=
 hc.mono fun e w1 ⟨h1, h2⟩ => by
  subst h1; have hb : Below w.heap.size w w1 := hbw.trans (h2.mono hbw.size); exact hok w1 hb (HN.below hb)
theorem aE.next1 {N : Nat} {Q' : Ending → World → Prop} {g : Nat → Pm α} (hN : N = 45) (HN : aE E b V PP s tv w r) (hE : ax E) (hbw : Below w.heap.size w W) (hr : r = (Go.Proofs.YthkebhjaaikopaaGreatDoor.next E.K >>= g) s)
 (hok : ∀ w1, Fr E tv w tv w1 → aE E b V PP (aH E.K s) tv w1 (g s.i (aH E.K s)) → Q' (.returned (E.tk s.i).val) w1) : Calls Tryz.prog N #[.pointer (some ⟨E.pb, 0, none⟩)] W Q' := by
 subst hN; refine (fR E s tv W hE (HN.pi.keep hbw)).mono fun e w1 ⟨h1, h2, h3⟩ => ?_
 subst h1 hr; have hf : cH E b tv w tv w1 := (cH.of_below hbw).trans (cH.of h3 (Nat.le_trans HN.le hbw.size) (fun g hg => hg.elim)); exact hok w1 ((Fr.of_below hbw).trans h3) (HN.fr hf h2 rfl)
theorem aE.ret {f : α → Value} {a : α} {s0 : St} (HN : aE E b (VI f) PP s tv w r) (hr : r = .ok a s0) (hs : s0 = s) : PP (.returned (f a)) w := by
 subst hr hs; exact HN.out _ _ ⟨_, tv, rfl, rfl, HN.pi, cH.refl _ _ _ _⟩
theorem aE.retL {l : List Int} {v : Value} {s0 : St} {r : R (List Int)} (HN : aE E b (VL E b) PP s tv w r) (hr : r = .ok l s0) (hs : s0 = s) (hv : VL E b l v tv w) : PP (.returned v) w := by
 subst hr hs; exact HN.out _ _ ⟨v, tv, rfl, hv, HN.pi, cH.refl _ _ _ _⟩
theorem aE.gives {c : Int} {x : Nat} (HN : aE E b V PP s tv w r) (hr : r = .err c x) : PP (bi c (E.tk x).at1) w := by
 subst hr; exact HN.out _ _ ⟨tv, rfl, cH.refl _ _ _ _⟩
structure ag (b : Bd) (tv : TV) (w : World) (q : Nat) (cs : Array Value) (e : TypeId) : Prop where
 at1 : w.heap[q]? = some (.cells cs e (0, 0))
 le : b.n ≤ q
 ne : tv.v.ownBlock ≠ some q
theorem ag.lt {q : Nat} {cs : Array Value} {e : TypeId} (h : ag b tv w q cs e) : q < w.heap.size := af h.at1
theorem ag.cell {q : Nat} {cs : Array Value} {e : TypeId} (h : ag b tv w q cs e) (j : Nat) {v : Value} (hv : cs[j]? = some v) : w.cell? ⟨q, j, none⟩ = some v := (cell_of_row w q j _ _ _ h.at1).trans hv
theorem ag.free {q : Nat} {cs : Array Value} {e : TypeId} (h : ag b tv w q cs e) (j : Nat) : w.frozen? ⟨q, j, none⟩ = false := frozen_of_row w q j _ _ h.at1
theorem ag.fr {q : Nat} {cs : Array Value} {e : TypeId} {hs : Nat → Prop} (h : ag b tv w q cs e) (hB : tT E b) (hf : gh E hs tv w tv1 w1) : ag b tv1 w1 q cs e :=
 ⟨(hf.out.block q h.lt (fun hk => by
   rcases hk with hk | hk
   · have h1 := hB.p; have h2 := h.le; have : q = E.pb := hk; omega
   · exact h.ne hk)).trans h.at1, h.le, fun e1 => by
   rcases hf.tvb q e1 with h1 | h1
   · exact h.ne h1
   · have := h.lt; omega⟩
theorem ag.below {q : Nat} {cs : Array Value} {e : TypeId} (h : ag b tv w q cs e) (hb : Below w.heap.size w w1) : ag b tv w1 q cs e := ⟨(hb.block _ h.lt).trans h.at1, h.le, h.ne⟩
theorem ag.new {q : Nat} {cs : Array Value} {e : TypeId} (hN : aE E b V PP s tv w r) (hW : w.alloc (.cells cs e) = W) (hq : q = w.heap.size) : ag b tv W q cs e :=
 ⟨by rw [← hW, hq]; exact al w _, by rw [hq]; exact hN.le, hN.pi.tvlt (by omega)⟩
theorem ag.outs {q j : Nat} {u : Value} (hW : w.setCell ⟨q, j, none⟩ u = W) : am (fun k => k = q) w W := by
 rw [← hW]; exact (am.refl (fun k => k = q) w).setCell (p := ⟨q, j, none⟩) (.inl rfl) u
theorem ag.set {q j : Nat} {cs : Array Value} {e : TypeId} {u : Value} (h : ag b tv w q cs e) (hW : w.setCell ⟨q, j, none⟩ u = W) : ag b tv W q (cs.setIfInBounds j u) e :=
 ⟨by rw [← hW]; exact heap_setCell_same w q j _ e u h.at1, h.le, h.ne⟩
theorem ag.other {q q' : Nat} {cs' : Array Value} {e' : TypeId} (h : ag b tv w q' cs' e') (ho : am (fun k => k = q) w W) (hne : q' ≠ q) : ag b tv W q' cs' e' :=
 ⟨(ho.block q' h.lt hne).trans h.at1, h.le, h.ne⟩
theorem ag.apart {q q' : Nat} {cs cs' : Array Value} {e e' : TypeId} (h' : ag b tv w q' cs' e') (h : ag b tv w q cs e) (he : e' ≠ e) : q' ≠ q := fun h1 => by
 have h2 := h.at1; rw [← h1, h'.at1] at h2; injection h2 with h2; injection h2 with h2 h3; exact he h3
theorem aE.box {q : Nat} {cs : Array Value} {e : TypeId} (HN : aE E b V PP s tv w r) (h : ag b tv w q cs e) (h3 : e ≠ 3) (ho : am (fun k => k = q) w W) : aE E b V PP s tv W r := by
 have hB := HN.base; have hq := h.le; obtain ⟨T, a1, a2, a3⟩ := HN.pi.tree; have hpi := HN.pi; have n1 := hB.p; have n2 := hB.t; have n3 := hB.m; have n4 := hB.k; have n5 := hB.a; have n6 := hB.B; refine HN.fr ⟨ho.mono (fun x hx => .inl (.inr (.inr (by have : x = q := hx; omega)))), fun _ h => .inl h, fun _ h => .inl h⟩ ?_ rfl; exact ⟨(ho.block _ (af hpi.p) (by omega)).trans hpi.p, (ho.block _ (af hpi.t) (by omega)).trans hpi.t, (ho.block _ (af hpi.m) (by omega)).trans hpi.m, (ho.block _ (af hpi.k) (by omega)).trans hpi.k, (ho.block _ (af hpi.a) (by omega)).trans hpi.a,
  ⟨T, a1, bS a2 ho (fun g hg hS => h.ne (by rw [hg, hS])), fun t htm => ⟨bS (a3 t htm).1 ho (fun g hg hS => dl (a3 t htm).1 h.at1 (Ne.symm h3) (by rw [hg, hS])), (a3 t htm).2⟩⟩, hpi.i, hpi.d0, hpi.d1, hpi.len, hpi.low.trans (ho.below hpi.bl (fun k hk => by have : k = q := hk; omega)), Nat.le_trans hpi.bl ho.size, fun g hg => Nat.lt_of_lt_of_le (hpi.kslt g hg) ho.size⟩
theorem VL.below {l : List Int} {v : Value} (h : VL E b l v tv w) (hb : Below w.heap.size w w1) : VL E b l v tv w1 := ⟨h.1.keep hb, h.2⟩
theorem VL.fr {l : List Int} {v : Value} {hs : Nat → Prop} (h : VL E b l v tv w) (hp : PI E s tv w) (hf : gh E hs tv w tv1 w1) (hh : ∀ g, hs g → v.ownBlock ≠ some g) : VL E b l v tv1 w1 :=
 ⟨Fr.own (tv' := ⟨tv1.v, tv.ks⟩) ⟨hf.out, hf.tvb, fun _ h => .inl h⟩ hp h.1 (by decide) (by decide), fun g hg => ⟨(h.2 g hg).1, fun h1 => by
  rcases hf.ks g h1 with h2 | h2 | h2
  · exact (h.2 g hg).2 h2
  · have := (h.1.lt g hg).2; omega
  · exact hh g h2 hg⟩⟩
theorem VL.box {l : List Int} {v : Value} {q : Nat} {cs : Array Value} {e : TypeId} (hv : VL E b l v tv w) (h : ag b tv w q cs e) (h3 : e ≠ 3) (ho : am (fun k => k = q) w W) : VL E b l v tv W :=
 ⟨bS hv.1 ho (fun g hg hS => dl hv.1 h.at1 (Ne.symm h3) (by rw [hg, hS])), hv.2⟩
theorem qz (w : World) (b : Nat) (l : List Int) (hb : b ≤ w.heap.size) (hl : l.length ≤ 100) : Ow (w.alloc (.cells (l.map fun k => Value.int .i64 k).toArray 3)) b 3 1 bC (.slice (some ⟨w.heap.size, 0, none⟩) l.length l.length) l := by
 have h := World.ownsRow_lit (e := 3) (size := 1) w (l.map fun k => Value.int .i64 k).toArray l.length hb (by unfold maxLen; omega) (by simp); unfold Ow; have e : eF 1 bC l = (l.map fun k => Value.int .i64 k) := by
  clear hb hl h
  induction l with
  | nil => rfl
  | cons a l ih => rw [show a :: l = [a] ++ l from rfl, dX, ih, hD]; rfl
 rw [e]; simpa using h
theorem VL.lits (HN : aE E b V PP s tv w r) (l : List Int) (hl : l.length ≤ 100) {o : Obj} (ho : o = .cells (l.map fun k => Value.int .i64 k).toArray 3) (hW : w.alloc o = W) {n q : Nat} (hn : n = l.length) (hq : q = w.heap.size) : VL E b l (.slice (some ⟨q, 0, none⟩) n n) tv W := by
 subst ho hn hq; refine ⟨by rw [← hW]; exact qz w E.B l HN.pi.bl hl, fun g hg => ?_⟩; obtain rfl : w.heap.size = g := by simpa [Value.ownBlock] using hg
 exact ⟨HN.le, fun h => by have := HN.pi.kslt _ h; omega⟩
theorem VL.nil : VL E b [] (.slice none 0 0) tv w := ⟨gp _ _ _ _ _, fun g hg => by simp [Value.ownBlock] at hg⟩
theorem VL.slice {l : List Int} {v : Value} (h : VL E b l v tv w) : ∃ a c, v = .slice a l.length c := h.1.slice
theorem ah {o : Obj} (hW : w.alloc o = W) : W.heap.size = w.heap.size + 1 := by rw [← hW]; simp
theorem aq {a : Addr} {v : Value} (hW : w.setCell a v = W) : W.heap.size = w.heap.size := by rw [← hW]; simp [World.setCell]
theorem ae {o : Obj} (hW : w.alloc o = W) : Below w.heap.size w W := by rw [← hW]; exact br.alloc (Nat.le_refl _) _
end
section
variable {K : List KT} {R0 : cT} {n d : Nat} {s0 s : St}
def hZ (K : List KT) (d : Nat) (s0 : St) (k : Int) (s1 : St) : Prop := Lt K d s0 s1 ∧ bg k s1
def uH (K : List KT) (d : Nat) (s0 s : St) (o : Option Nat) (s1 : St) : Prop := (∀ i, o = some i → Lt K (d + 1) s0 s1) ∧ (o = none → s = s1)
def BG (K : List KT) (d : Nat) (s0 s : St) (o : Bool) (s1 : St) : Prop := (o = true → Lt K (d + 1) s0 s1) ∧ (o = false → s = s1)
theorem bD {l : List ByteArray} (hE : aM K) (L : Lt K d s0 s) : ak (takes K l) s (uH K d s0 s) := cf hE L (fun _ _ L => ⟨fun _ _ => L, fun h => by cases h⟩) ⟨fun _ h => by (cases h), fun _ => rfl⟩
theorem lw {t : ByteArray} (hE : aM K) (L : Lt K d s0 s) : ak (take1 K t) s (BG K d s0 s) := bk hE L (fun _ L => ⟨fun _ => L, fun h => by cases h⟩) ⟨fun h => by (cases h), fun _ => rfl⟩
theorem dW {t : ByteArray} (hE : aM K) (L : Lt K d s0 s) : ak (must K t) s fun _ s1 => Lt K (d + 1) s0 s1 := aL hE L (fun _ L => L)
theorem bM (hE : aM K) (L : Lt K d s0 s) (hk : (tok K s.i).kind ≠ 0) : Lt K (d + 1) s0 (aH K s) := (cE hE L hk (Q := fun _ s1 => Lt K (d + 1) s0 s1) (fun _ L => L)).ok rfl
theorem qY (hE : aM K) (L : Lt K d s0 s) : ak (ident K) s fun i s1 => Lt K (d + 1) s0 s1 ∧ i = s.i := ak.ident hE L.lt (fun h => ⟨L.adv h, rfl⟩)
theorem kG {lo hi : Int} (hE : aM K) (L : Lt K d s0 s) : ak (num K lo hi) s fun _ s1 => Lt K (d + 1) s0 s1 := nq hE L (fun _ _ L => L)
theorem km (hE : aM K) (L : Lt K d s0 s) : ak (some1 K) s fun _ s1 => Lt K (d + 1) s0 s1 := kl hE L (fun _ _ L => L)
theorem tw {t : Nat} {kind : Int} {text : ByteArray} {m : Int} {kids : List Int} (L : Lt K d s0 s) : ak (put t kind text m kids) s (hZ K d s0) := aG L (fun _ _ L h => ⟨L, h⟩)
theorem ga {p : Pm Int} (L : Lt K d s0 s) (h : ak p s (ct K s)) : ak p s (hZ K (d + 1) s0) := dy L h (fun _ _ L h => ⟨L, h⟩)
theorem oV {p : Pm Int} (L : Lt K d s0 s) (h : ∀ s', s'.i = s.i → 0 ≤ s'.deep → ak p s' (ct K s')) : ak (within p) s (hZ K (d + 1) s0) := eZ L h (fun _ _ L h => ⟨L, h⟩)
theorem m9 {m : Bool} {p : Pm Int} (L : Lt K d s0 s) (h : ∀ s', s'.i = s.i → 0 ≤ s'.deep → ak p s' (ct K s')) : ak (plainly m p) s (hZ K (d + 1) s0) := fx L h (fun _ _ L h => ⟨L, h⟩)
theorem kR (H : bs K n R0) (L : Lt K d s0 s) (hn : 20 * (K.length - s.i) + 13 ≤ n) : ak (expr R0) s (hZ K (d + 1) s0) := du H L hn (fun _ _ L h => ⟨L, h⟩)
theorem eT (H : bs K n R0) (L : Lt K d s0 s) (hn : 20 * (K.length - s.i) + 13 ≤ n) : ak (inner R0) s (hZ K (d + 1) s0) := cA H L hn (fun _ _ L h => ⟨L, h⟩)
theorem eQ (H : bs K n R0) (L : Lt K d s0 s) (hn : 20 * (K.length - s.i) + 1 ≤ n) : ak R0.ref s (hZ K (d + 1) s0) := d9 H L hn (fun _ _ L h => ⟨L, h⟩)
theorem kh (hE : aM K) (L : Lt K d s0 s) : ak (typ K) s (hZ K (d + 1) s0) := ke hE L (fun _ _ L h => ⟨L, h⟩)
theorem ja (hE : aM K) (H : bs K n R0) (L : Lt K d s0 s) (hn : 20 * (K.length - s.i) ≤ n) : ak (channel K R0) s (hZ K (d + 1) s0) := i7 hE H L hn (fun _ _ L h => ⟨L, h⟩)
theorem kC {o : gA} (hE : aM K) (H : bs K n R0) (L : Lt K d s0 s) (hn : 20 * (K.length - s.i) + 13 ≤ n) : ak (one K R0 o) s (hZ K (d + 1) s0) := gq hE H L hn (fun _ _ L h => ⟨L, h⟩)
theorem pC {o : gA} (hE : aM K) (H : bs K n R0) (L : Lt K d s0 s) (hn : 20 * (K.length - s.i) + 13 ≤ n) : ak (list K R0 o) s fun _ s1 => Lt K (d + 1) s0 s1 := dD hE H L hn (fun _ _ L => L)
theorem jY {p : Pm Int} (hE : aM K) (L : Lt K d s0 s) (h : ∀ s1, s.i + 1 ≤ s1.i → Lt K (d + 1) s0 s1 → ak p s1 (ct K s1)) : ak (braced K p) s (hZ K (d + 1) s0) := dH hE L h (fun _ _ L h => ⟨L, h⟩)
theorem r9 {f m : gA} (hE : aM K) (H : bs K n R0) (L : Lt K d s0 s) (hn : 20 * (K.length - s.i) + 13 ≤ n) : ak (pack K R0 f m) s fun _ s1 => Lt K (d + 1) s0 s1 := kz hE H L hn (fun _ _ L => L)
theorem oQ (hE : aM K) (H : bs K n R0) (L : Lt K d s0 s) (hn : 20 * (K.length - s.i) ≤ n) : ak (decl K R0) s (hZ K (d + 1) s0) := fY hE H L hn (fun _ _ L h => ⟨L, h⟩)
theorem i2 {e : ByteArray} (hE : aM K) (H : bs K n R0) (L : Lt K d s0 s) (hn : 20 * (K.length - s.i) ≤ n) : ak (decls K R0 e) s fun _ s1 => Lt K (d + 1) s0 s1 := iZ hE H L hn (fun _ _ L => L)
theorem rp (hE : aM K) (H : bs K n R0) (L : Lt K d s0 s) (hn : 20 * (K.length - s.i) ≤ n) : ak (block K R0) s (hZ K (d + 1) s0) := cY hE H L hn (fun _ _ L h => ⟨L, h⟩)
theorem ki (H : bs K n R0) (L : Lt K d s0 s) (hn : 20 * (K.length - s.i) + 14 ≤ n) : ak (within R0.stmt) s (hZ K (d + 1) s0) := gW H L hn (fun _ _ L h => ⟨L, h⟩)
theorem rP (hE : aM K) (H : bs K n R0) (L : Lt K d s0 s) (hn : 20 * (K.length - s.i) + 14 ≤ n) : ak (step K R0) s (hZ K (d + 1) s0) := oo hE H L hn (fun _ _ L h => ⟨L, h⟩)
theorem ot {a : Int} (hE : aM K) (H : bs K n R0) (L : Lt K d s0 s) (hn : 20 * (K.length - s.i) ≤ n) : ak (span K R0 a) s fun _ s1 => Lt K (d + 1) s0 s1 := kj hE H L hn (fun _ _ L => L)
theorem qM (hE : aM K) (H : bs K n R0) (L : Lt K d s0 s) (hn : 20 * (K.length - s.i) ≤ n) : ak (loop1 K R0) s fun _ s1 => Lt K (d + 1) s0 s1 := lU hE H L hn (fun _ _ L => L)
theorem m6 (hE : aM K) (H : bs K n R0) (L : Lt K d s0 s) (hn : 20 * (K.length - s.i) ≤ n) : ak (printed K R0) s fun _ s1 => Lt K (d + 1) s0 s1 := iB hE H L hn (fun _ _ L => L)
theorem kM {l : List Int} (hE : aM K) (L : Lt K d s0 s) : ak (head K l) s (hZ K d s0) := kL hE L (fun _ _ L h => ⟨L, h⟩)
theorem kK {p : Pm (List Int)} {e : Nat} (L : Lt K d s0 s) (h : ak p s (dS K e s)) : ak p s fun _ s1 => Lt K (d + e) s0 s1 := bX L h (fun _ _ L => L)
end
section
variable {α γ : Type} {E : aN} {b : Bd} {V : α → Value → TV → World → Prop} {PP : Ending → World → Prop} {s s1 : St} {tv tv1 : TV} {w w1 W : World} {r r1 : R α}
abbrev da (E : aN) (tv : TV) (w : World) (r : R (List Int)) : Ending → World → Prop := d6 E (.at w.heap.size) tv w (VL E (.at w.heap.size)) r
theorem aE.startL {r : R (List Int)} {N : Nat} {args : Array Value} (hp : PI E s tv w) (h : ∀ PP : Ending → World → Prop, aE E (.at w.heap.size) (VL E (.at w.heap.size)) PP s tv w r → Calls Tryz.prog N args w PP) : Calls Tryz.prog N args w (da E tv w r) :=
 h _ ⟨hY hp, Nat.le_refl _, hp, fun _ _ h => h⟩
theorem aE.startV {r : R γ} {V : γ → Value → TV → World → Prop} {N : Nat} {args : Array Value} (hp : PI E s tv w) (h : ∀ PP : Ending → World → Prop, aE E (.at w.heap.size) V PP s tv w r → Calls Tryz.prog N args w PP) : Calls Tryz.prog N args w (d6 E (.at w.heap.size) tv w V r) :=
 h _ ⟨hY hp, Nat.le_refl _, hp, fun _ _ h => h⟩
theorem aE.callV {p : Pm γ} {s0 : St} {g : γ → Pm α} {VV : γ → Value → TV → World → Prop} {N : Nat} {args : Array Value} {cG : γ → St → Prop} {Q' : Ending → World → Prop} (HN : aE E b V PP s tv w r) (hbw : Below w.heap.size w W) (hc : Calls Tryz.prog N args W (d6 E (.at W.heap.size) tv W VV (p s0))) (hT : ak p s0 cG)
 (hok : ∀ a s1 v tv1 w1, Hid (p s0 = .ok a s1) → cG a s1 → VV a v tv1 w1 → Fr E tv w tv1 w1 → aE E b V PP s1 tv1 w1 (g a s1) → Q' (.returned v) w1)
 (hr : r = (p >>= g) s0 := by exact rfl) (herr : ∀ c x w1, PP (bi c x) w1 → Q' (bi c x) w1 := by exact fun _ _ _ hh => ⟨rfl, hh⟩) : Calls Tryz.prog N args W Q' := by
 refine hc.mono fun e w1 hpost => ?_
 have hle : b.n ≤ W.heap.size := Nat.le_trans HN.le hbw.size; unfold d6 at hpost; unfold ak at hT; subst hr; cases hq : p s0 with
 | ok a s1 =>
   rw [hq] at hpost hT; obtain ⟨v, tv1, rfl, hv, h1, h2⟩ := hpost; have hf : cH E b tv w tv1 w1 := (cH.of_below hbw).trans (cH.of h2.to hle (fun g hg => hg.elim)); exact hok a s1 v tv1 w1 hq hT hv ((Fr.of_below hbw).trans h2.to) (HN.fr hf h1 (hU hq))
 | err c x =>
   rw [hq] at hpost; obtain ⟨tv1, rfl, h2⟩ := hpost; refine herr _ _ _ (HN.out _ _ ?_); rw [gf hq]; exact ⟨tv1, rfl, (cH.of_below hbw).trans (cH.of h2.to hle (fun g hg => hg.elim))⟩
 | stuck => rw [hq] at hpost; exact hpost.elim
theorem aE.callL {p : Pm (List Int)} {s0 : St} {g : List Int → Pm α} {N : Nat} {args : Array Value} {cG : List Int → St → Prop} {Q' : Ending → World → Prop} (HN : aE E b V PP s tv w r) (hbw : Below w.heap.size w W) (hc : Calls Tryz.prog N args W (da E tv W (p s0))) (hT : ak p s0 cG)
 (hok : ∀ a s1 v tv1 w1, Hid (p s0 = .ok a s1) → cG a s1 → VL E b a v tv1 w1 → Fr E tv w tv1 w1 → aE E b V PP s1 tv1 w1 (g a s1) → Q' (.returned v) w1)
 (hr : r = (p >>= g) s0 := by exact rfl) (herr : ∀ c x w1, PP (bi c x) w1 → Q' (bi c x) w1 := by exact fun _ _ _ hh => ⟨rfl, hh⟩) : Calls Tryz.prog N args W Q' :=
 HN.callV hbw hc hT (fun a s1 v tv1 w1 h1 h2 h3 h4 h5 => hok a s1 v tv1 w1 h1 h2 ⟨h3.1, fun g hg => ⟨Nat.le_trans (Nat.le_trans HN.le hbw.size) (h3.2 g hg).1, (h3.2 g hg).2⟩⟩ h4 h5) hr herr
theorem aE.lastL {N : Nat} {args : Array Value} {Q' : Ending → World → Prop} {r r0 : R (List Int)} (HN : aE E b (VL E b) PP s tv w r) (hbw : Below w.heap.size w W) (hc : Calls Tryz.prog N args W (da E tv W r0))
 (hok : ∀ v w1, PP (.returned v) w1 → Q' (.returned v) w1)
 (hr : r = r0 := by exact rfl) (herr : ∀ c x w1, PP (bi c x) w1 → Q' (bi c x) w1 := by exact fun _ _ _ hh => ⟨rfl, hh⟩) : Calls Tryz.prog N args W Q' := by
 refine hc.mono fun e w1 hpost => ?_
 have hle : b.n ≤ W.heap.size := Nat.le_trans HN.le hbw.size; subst hr; unfold da d6 at hpost; cases r with
 | ok a s1 =>
   obtain ⟨v, tv1, rfl, hv, h1, h2⟩ := hpost; exact hok _ _ (HN.out _ _ ⟨v, tv1, rfl, ⟨hv.1, fun g hg => ⟨Nat.le_trans hle (hv.2 g hg).1, (hv.2 g hg).2⟩⟩, h1, (cH.of_below hbw).trans (cH.of h2.to hle (fun g hg => hg.elim))⟩)
 | err c x =>
   obtain ⟨tv1, rfl, h2⟩ := hpost; exact herr _ _ _ (HN.out _ _ ⟨tv1, rfl, (cH.of_below hbw).trans (cH.of h2.to hle (fun g hg => hg.elim))⟩)
 | stuck => exact hpost.elim
def bV (b : Bool) : Value := if b then .int .i64 0 else .int .i64 (-1)
theorem jB (hE : ax E) (t : ByteArray) (hp : PI E s tv w) (ht : 0 < t.size) (hW : Below w.heap.size w W) {v : Value} (hv : Sl W 1 iy v [t]) : Calls Tryz.prog 22 #[.pointer (some ⟨E.pb, 0, none⟩), v] W (aQ E tv W bV (take1 E.K t s)) := by
 refine (bj E s tv v [t] W hE (hp.keep hW) hv (fun x hx => by rw [List.mem_singleton.1 hx]; exact ht)).mono fun e w1 hpost => ?_
 rw [mR] at hpost; unfold take1
 by_cases h : aJ E.K 0 t s = true
 · rw [if_pos h] at hpost ⊢; exact hpost
 · rw [if_neg h] at hpost ⊢; exact hpost
theorem aE.grow {l l2 : List Int} {v v2 : Value} (HN : aE E b V PP s tv w r) (hE : ax E) (hv : VL E b l v tv w) (hb : Below w.heap.size w w1) (hg : w1.grownBy W v.ownBlock) (ho : Ow W E.B 3 1 bC v2 l2) (h3 : ∀ g, v2.ownBlock = some g → v.ownBlock = some g ∨ w1.heap.size ≤ g) : aE E b V PP s tv W r ∧ VL E b l2 v2 tv W := by
 have hle := HN.le; have hz := hb.size; have hpi := HN.pi; have hr : ∀ q, v.ownBlock = some q → E.B ≤ q ∧ q ≠ E.pb ∧ q ≠ E.tb ∧ q ≠ E.mb ∧ q ≠ E.kb ∧ q ≠ E.ab ∧ tv.v.ownBlock ≠ some q ∧ ¬ tv.ks q := fun q hq => by
  obtain ⟨n1, n2, n3, n4⟩ := hpi.fix hE hv.1 (by decide); have n0 : v.ownBlock ≠ some E.pb := dl hv.1 hpi.p (by decide); obtain ⟨T, -, hT, -⟩ := hpi.tree; refine ⟨(hv.1.lt q hq).1, ?_, ?_, ?_, ?_, ?_, ?_, (hv.2 q hq).2⟩
  · rintro rfl; exact n0 hq
  · rintro rfl; exact n1 hq
  · rintro rfl; exact n2 hq
  · rintro rfl; exact n3 hq
  · rintro rfl; exact n4 hq
  · intro e1; exact kB hv.1 hT (by decide) (by rw [hq, e1]) (by rw [hq]; simp)
 have hp2 := hpi.grow hb hg hr; have hO : am (fun k => v.ownBlock = some k) w W := (am.of_below hb).grown hg (fun k hk => .inl hk); refine ⟨HN.fr ⟨hO.mono (fun x hx => .inl (.inr (.inr (hv.2 x hx).1))), fun _ h => .inl h, fun _ h => .inl h⟩ hp2 rfl, ho, fun g hg2 => ?_⟩; rcases h3 g hg2 with h4 | h4
 · exact hv.2 g h4
 · exact ⟨by omega, fun h => by have := hpi.kslt g h; omega⟩
theorem ag.grow {l : List Int} {v : Value} {q : Nat} {cs : Array Value} {e : TypeId} (h : ag b tv w q cs e) (hv : VL E b l v tv w) (h3 : e ≠ 3) (hb : Below w.heap.size w w1) (hg : w1.grownBy W v.ownBlock) : ag b tv W q cs e :=
 ⟨((hg.block q (Nat.lt_of_lt_of_le h.lt hb.size) (fun e1 => dl hv.1 h.at1 (Ne.symm h3) e1.symm)).trans (hb.block q h.lt)).trans h.at1, h.le, h.ne⟩
end
section
variable {α γ : Type} {E : aN} {b : Bd} {V : α → Value → TV → World → Prop} {PP : Ending → World → Prop} {s s1 : St} {tv tv1 : TV} {w w1 W : World} {r r1 : R α}
def eP (x : ay) : Array Value := #[.int .i64 x.kind, .int .i64 x.at1, .int .i64 x.line, .string x.text, .int .i64 x.n]
def bB (kind a l : Int) (text : ByteArray) (n : Int) (kv : Value) : Array Value := #[.int .i64 kind, .int .i64 a, .int .i64 l, .string text, .int .i64 n, kv]
theorem ag.tok {q : Nat} {x : ay} (h : ag b tv w q (eP x) 31) : w.cell? ⟨q, 0, none⟩ = some (.int .i64 x.kind) ∧ w.cell? ⟨q, 1, none⟩ = some (.int .i64 x.at1) ∧ w.cell? ⟨q, 2, none⟩ = some (.int .i64 x.line) ∧ w.cell? ⟨q, 3, none⟩ = some (.string x.text) ∧ w.cell? ⟨q, 4, none⟩ = some (.int .i64 x.n) ∧ q < w.heap.size :=
 ⟨h.cell 0 rfl, h.cell 1 rfl, h.cell 2 rfl, h.cell 3 rfl, h.cell 4 rfl, h.lt⟩
theorem ag.nd {q : Nat} {kind a l : Int} {text : ByteArray} {n : Int} {kv : Value} (h : ag b tv w q (bB kind a l text n kv) 39) : w.cell? ⟨q, 0, none⟩ = some (.int .i64 kind) ∧ w.cell? ⟨q, 1, none⟩ = some (.int .i64 a) ∧ w.cell? ⟨q, 2, none⟩ = some (.int .i64 l) ∧ w.cell? ⟨q, 3, none⟩ = some (.string text) ∧ w.cell? ⟨q, 4, none⟩ = some (.int .i64 n) ∧ w.cell? ⟨q, 5, none⟩ = some kv ∧ q < w.heap.size :=
 ⟨h.cell 0 rfl, h.cell 1 rfl, h.cell 2 rfl, h.cell 3 rfl, h.cell 4 rfl, h.cell 5 rfl, h.lt⟩
theorem cW (E : aN) (s : St) (tv : TV) (w : World) (hE : ax E) (hp : PI E s tv w) :
 Calls Tryz.prog 21 #[.pointer (some ⟨E.pb, 0, none⟩)] w fun e w' => e = .returned (.agg #[.int .i64 (E.tk s.i).kind, .int .i64 (E.tk s.i).at1, .int .i64 (E.tk s.i).line, .string (E.tk s.i).text, .int .i64 (E.tk s.i).n]) ∧ Below w.heap.size w w' := eU E s tv w hE hp
theorem aE.here (HN : aE E b V PP s tv w r) {g : Nat → Pm α} (hr : r = (Go.Proofs.YthkebhjaaikopaaGreatDoor.here >>= g) s) : aE E b V PP s tv w (g s.i s) := HN.to hr
theorem aE.asks (HN : aE E b V PP s tv w r) {f : St → Bool} {g : Bool → Pm α} (hr : r = (Go.Proofs.YthkebhjaaikopaaGreatDoor.asks f >>= g) s) : aE E b V PP s tv w (g (f s) s) := HN.to hr
theorem aE.nodeAt (HN : aE E b V PP s tv w r) {k : Int} {g : Nd → Pm α} (hr : r = (Go.Proofs.YthkebhjaaikopaaGreatDoor.nodeAt k >>= g) s) : aE E b V PP s tv w (g (s.tree.getD k.toNat default) s) := HN.to hr
theorem aE.pure {x : γ} (HN : aE E b V PP s tv w r) {g : γ → Pm α} {s0 : St} (hr : r = ((pure x : Pm γ) >>= g) s0) : aE E b V PP s tv w (g x s0) := HN.to hr
theorem gL {α β γ : Type} (p : Pm γ) (f : γ → Pm β) (g : β → Pm α) (s0 : St) : ((p >>= f) >>= g) s0 = (p >>= fun x => f x >>= g) s0 := by
 show ((p s0).next fun a s' => f a s').next (fun a s' => g a s') = (p s0).next fun a s' => (f a s').next fun a s' => g a s'
 cases p s0 <;> rfl
theorem aE.assoc {β : Type} (HN : aE E b V PP s tv w r) {p : Pm γ} {f : γ → Pm β} {s0 : St} {g : β → Pm α} (hr : r = ((p >>= f) >>= g) s0) : aE E b V PP s tv w ((p >>= fun x => f x >>= g) s0) := HN.to (hr.trans (gL p f g s0))
theorem aE.ask {f : St → Bool} {g : Bool → Pm α} {N : Nat} {args : Array Value} {Q' : Ending → World → Prop} (HN : aE E b V PP s tv w r) (hbw : Below w.heap.size w W) (hc : Calls Tryz.prog N args W fun e w' => e = .returned (.bool (f s)) ∧ Below W.heap.size W w') (hr : r = (Go.Proofs.YthkebhjaaikopaaGreatDoor.asks f >>= g) s)
 (hok : ∀ x w1, Hid (f s = x) → Below w.heap.size w w1 → aE E b V PP s tv w1 (g x s) → Q' (.returned (.bool x)) w1) : Calls Tryz.prog N args W Q' :=
 hc.mono fun e w1 ⟨h1, h2⟩ => by
  subst h1 hr; have hb : Below w.heap.size w w1 := hbw.trans (h2.mono hbw.size); exact hok _ w1 rfl hb (HN.below hb)
end
section
variable {α γ : Type} {E : aN} {b : Bd} {V : α → Value → TV → World → Prop} {PP : Ending → World → Prop} {s s1 : St} {tv tv1 : TV} {w w1 W : World} {r r1 : R α}
theorem aE.putV {g : Int → Pm α} {t : Nat} {kind a l : Int} {text : ByteArray} {n : Int} {kv : Value} {kids : List Int} {Q' : Ending → World → Prop} (HN : aE E b V PP s tv w r) (hE : ax E) (hbw : Below w.heap.size w W) (hv : VL E b kids kv tv W) (hsz : text.size ≤ 1000000)
 (hok : ∀ k s1 tv1 w1, Hid (Go.Proofs.YthkebhjaaikopaaGreatDoor.put t kind text n kids s = .ok k s1) → gh E (fun g => kv.ownBlock = some g) tv w tv1 w1 → aE E b V PP s1 tv1 w1 (g k s1) → Q' (.returned (.int .i64 k)) w1)
 (hr : r = (Go.Proofs.YthkebhjaaikopaaGreatDoor.put t kind text n kids >>= g) s := by exact rfl) (herr : ∀ c x w1, PP (bi c x) w1 → Q' (bi c x) w1 := by exact fun _ _ _ hh => ⟨rfl, hh⟩) : Calls Tryz.prog 24 #[.pointer (some ⟨E.pb, 0, none⟩), .agg (eP (E.tk t)), .agg (bB kind a l text n kv)] W Q' :=
 HN.put hE hbw hv.1 (fun g hg => .inl (hv.2 g hg).1) hsz hok hr herr
theorem aE.putLastV {t : Nat} {kind a l : Int} {text : ByteArray} {n : Int} {kv : Value} {kids : List Int} {Q' : Ending → World → Prop} {r : R Int} (HN : aE E b (VI ap) PP s tv w r) (hE : ax E) (hbw : Below w.heap.size w W) (hv : VL E b kids kv tv W) (hsz : text.size ≤ 1000000)
 (hok : ∀ k w1, PP (.returned (.int .i64 k)) w1 → Q' (.returned (.int .i64 k)) w1)
 (hr : r = Go.Proofs.YthkebhjaaikopaaGreatDoor.put t kind text n kids s := by exact rfl) (herr : ∀ c x w1, PP (bi c x) w1 → Q' (bi c x) w1 := by exact fun _ _ _ hh => ⟨rfl, hh⟩) : Calls Tryz.prog 24 #[.pointer (some ⟨E.pb, 0, none⟩), .agg (eP (E.tk t)), .agg (bB kind a l text n kv)] W Q' :=
 HN.putLast hE hbw hv.1 (fun g hg => .inl (hv.2 g hg).1) hsz hok hr herr
end
structure uu (E : aN) (J : TV → World → Prop) (N : Nat) (first caps : Array Value) (p : Pm Int) (s : St) : Prop where
 does : ∀ (tv : TV) (w : World), PI E s tv w → J tv w → Calls Tryz.prog N (first ++ caps) w (aQ E tv w ap (p s))
theorem sd (w : World) (b : Nat) (k : Int) (hb : b ≤ w.heap.size) : Ow (w.alloc (.cells #[.int .i64 k] 3)) b 3 1 bC (.slice (some ⟨w.heap.size, 0, none⟩) 1 1) [k] := by
 exact World.ownsRow_lit w _ 1 hb (by decide) rfl
def iv : Value → Nat
 | .slice _ n _ => n
 | _ => 0
theorem iK {K : List KT} {m : Nat} {o : gA} {l : List Int} {s : St} : (bf K (m + 1)).listL o l s = if aJ K 0 (⟨#[44]⟩ : ByteArray) s = true then (one K (bf K m) o (aH K s)).next fun k s' => (bf K m).listL o (l ++ [k]) s' else .ok l s := by
 show ((take1 K (⟨#[44]⟩ : ByteArray) s).next fun b s1 => (if b = true then (do
  let k ← one K (bf K m) o
  (bf K m).listL o (l ++ [k])) else pure l : Pm (List Int)) s1) = _
 unfold take1
 by_cases h : aJ K 0 (⟨#[44]⟩ : ByteArray) s = true
 · rw [if_pos h, if_pos h]; rfl
 · rw [if_neg h, if_neg h]; rfl
set_option maxRecDepth 100000 in
theorem dN {E : aN} {n : Nat} (hE : ax E) (o : gA) (J : TV → World → Prop) (hJ : ∀ tv w tv' w', J tv w → Fr E tv w tv' w' → J tv' w') (N : Nat) (first caps : Array Value) (heg : ∀ args w, (callFunc N args).run Tryz.prog w = .ok (.enter N args) w)
 (hd : ∀ m, m ≤ n → ∀ s, s.i < E.K.length → 0 ≤ s.deep → 20 * (E.K.length - s.i) + 13 ≤ m → uu E J N first caps (one E.K (bf E.K m) o) s)
 (s : St) (tv : TV) (w : World) (hp : PI E s tv w) (hj : J tv w) (hn : 20 * (E.K.length - s.i) + 13 ≤ n) :
 Calls Tryz.prog 47 #[.pointer (some ⟨E.pb, 0, none⟩), .func (.func N) first caps] w (da E tv w (list E.K (bf E.K n) o s)) := by
 have HC := qd ((hd n (Nat.le_refl _) s hp.ik hp.d0 hn).does tv w hp hj); have HP := qd hp; have HE := qd hE; have HD := qd hd; have HJ := qd hJ; have HJ0 := qd hj; have HN := qd hn; have hlen : Hid (E.K.length ≤ 1000000000) := by unfold Hid; have := hE.cap; have := hE.capm; rw [E.lenK]; omega
 clear hd hp hj hE hJ hn; have HU : list E.K (bf E.K n) o s = (one E.K (bf E.K n) o s).next fun k s1 => (bf E.K n).listL o [k] s1 := rfl
 rw [HU]; clear HU; obtain ⟨r, HR⟩ : ∃ r, Hid (one E.K (bf E.K n) o s = r) := ⟨_, rfl⟩; rw [HR.out] at HC ⊢; obtain ⟨PP, hPP⟩ : ∃ PP, PP = da E tv w (r.next fun k s1 => (bf E.K n).listL o [k] s1) := ⟨_, rfl⟩; rw [← hPP]; have HPP := qd hPP; clear hPP; go_enter Tryz.func47, Tryz.ntmps47; go_wp2_with fail; refine HC.out.mono ?_; rintro e w1 hpost; cases r with
 | ok k s1 =>
   obtain ⟨rfl, tv1, hp1, hf1⟩ := hpost; have HP1 := qd hp1; have HF1 := qd hf1; clear hp1 hf1; unfold ap; have hb1 := HP1.out.bl; have hgrow : 1 ≤ s1.i ∧ 20 * (E.K.length - s1.i) + 1 ≤ n := by
    have h := (gq (n := n) HE.out.ends (au HE.out.ends n) (Lt.refl HP.out.ik HP.out.d0) HN.out (Q := fun _ s1 => s.i + 1 ≤ s1.i) (fun _ _ L _ => L.i)).ok HR.out; have := HN.out; omega
   obtain ⟨hg1, hg2⟩ := hgrow; go_wp2_with fail; generalize hW2 : World.alloc w1 _ = W2; have HG2 : Hid (Below w1.heap.size w1 W2) := by rw [← hW2]; exact br.alloc (Nat.le_refl _) _
   have HO2 : Hid (Ow W2 E.B 3 1 bC (.slice (some ⟨w1.heap.size, 0, none⟩) 1 1) [k]) := by rw [← hW2]; exact sd w1 E.B k hb1
   clear hW2; have HKS : Hid (∀ g, (Value.slice (some ⟨w1.heap.size, 0, none⟩) 1 1).ownBlock = some g → w.heap.size ≤ g ∧ ¬ tv1.ks g) := fun g hg => by
    obtain rfl : w1.heap.size = g := by simpa [Value.ownBlock] using hg
    exact ⟨HF1.out.out.size, fun h => by have := HP1.out.kslt _ h; omega⟩
   go_loopw [5] (fun v wr => ∃ (m : Nat) (l : List Int) (s2 : St) (tv2 : TV), Hid ((bf E.K n).listL o [k] s1 = (bf E.K m).listL o l s2) ∧ m ≤ n ∧ 20 * (E.K.length - s2.i) + 1 ≤ m ∧ Hid (PI E s2 tv2 wr) ∧ Hid (Fr E tv w tv2 wr) ∧ Hid (Ow wr E.B 3 1 bC v l) ∧ l.length ≤ s2.i ∧ Hid (∀ g, v.ownBlock = some g → w.heap.size ≤ g ∧ ¬ tv2.ks g)) (fun v _ => E.K.length - iv v)
   case atStart => exact ⟨n, [k], s1, tv1, rfl, Nat.le_refl _, hg2, HP1.out.keep HG2.out, HF1.out.trans (Fr.of_below HG2.out), HO2.out, hg1, HKS.out⟩
   case round =>
    obtain ⟨m, l, s2, tv2, htot, hmn, hneed, hp2, hf2, ho2, hll, hks⟩ := hrel; have hi2 := hp2.out.ik; obtain ⟨m, rfl⟩ : ∃ m', m = m' + 1 := ⟨m - 1, by omega⟩; obtain ⟨va, vc, rfl⟩ := ho2.out.slice; have htot2 : Hid ((bf E.K n).listL o [k] s1 = if aJ E.K 0 (⟨#[44]⟩ : ByteArray) s2 = true then (one E.K (bf E.K m) o (aH E.K s2)).next fun k s' => (bf E.K m).listL o (l ++ [k]) s' else .ok l s2) := htot.out.trans iK; clear htot; have hga : Hid (∀ ob : Obj, Below wr.heap.size wr (wr.alloc ob)) := fun ob => br.alloc (Nat.le_refl _) _
    obtain ⟨wo, rfl⟩ : ∃ wo : World, wo = wr := ⟨_, rfl⟩; have HTK := qd (bj E s2 tv2 _ [⟨#[44]⟩] _ HE.out (hp2.out.keep (hga.out _)) (cI wo [⟨#[44]⟩] #[.string ⟨#[44]⟩] 1 _ rfl rfl rfl (by simp)) (fun x hx => by rw [List.mem_singleton.1 hx]; decide)); rw [mR] at HTK; obtain ⟨b, HB⟩ : ∃ b, Hid (aJ E.K 0 (⟨#[44]⟩ : ByteArray) s2 = b) := ⟨_, rfl⟩; rw [HB.out] at HTK htot2; cases b with
    | false =>
      go_wp2_with fail; refine HTK.out.mono ?_; rintro e w3 hpost; obtain ⟨rfl, tv3, hp3, hf3⟩ := hpost; have HP3 := qd hp3; have HF3 := qd hf3; have HO3 := qd (hf3.own (hp2.out.keep (hga.out _)) (ho2.out.keep (hga.out _)) (by decide) (by decide)); have HKS3 : Hid (∀ g, (Value.slice va l.length vc).ownBlock = some g → w.heap.size ≤ g ∧ ¬ tv3.ks g) := fun g hg => ⟨(hks.out g hg).1, fun h => by
       rcases hf3.ks g h with h1 | h1 | h1
       · exact (hks.out g hg).2 h1
       · have h5 := (ho2.out.lt g hg).2; have h6 := (hga.out (.cells #[.string ⟨#[44]⟩] 9)).size; omega
       · exact h1⟩
      clear hp3 hf3; unfold cl; go_wp2_with fail; rw [HPP.out]; show da E tv w ((bf E.K n).listL o [k] s1) _ _; rw [htot2.out]; exact ⟨_, tv3, rfl, ⟨HO3.out, HKS3.out⟩, HP3.out, cH.of ((hf2.out.trans (Fr.of_below (hga.out _))).trans HF3.out) (Nat.le_refl _) (fun _ h => h.elim)⟩
    | true =>
      obtain ⟨hst, hl3⟩ := HE.out.ends.step hi2 (bx HB.out); have hi3 : (aH E.K s2).i = s2.i + 1 := by rw [hst]
      have HI3 := qd hi3; have HL3 := qd hl3; clear hi3 hl3 hst; go_wp2_with fail; refine HTK.out.mono ?_; rintro e w3 hpost; obtain ⟨rfl, tv3, hp3, hf3⟩ := hpost; have HP3 := qd hp3; have HF3 := qd ((hf2.out.trans (Fr.of_below (hga.out _))).trans hf3); have HO3 := qd (hf3.own (hp2.out.keep (hga.out _)) (ho2.out.keep (hga.out _)) (by decide) (by decide)); have HF23 := qd ((Fr.of_below (hga.out _)).trans hf3); clear hp3 hf3; have HC2 := qd ((HD.out m (by omega) (aH E.K s2) HP3.out.ik HP3.out.d0 (by have := HI3.out; have := HL3.out; omega)).does tv3 w3 HP3.out (HJ.out _ _ _ _ HJ0.out HF3.out)); obtain ⟨r2, HR2⟩ : ∃ r, Hid (one E.K (bf E.K m) o (aH E.K s2) = r) := ⟨_, rfl⟩; rw [HR2.out] at HC2; unfold cl; have HT3 : Hid ((bf E.K n).listL o [k] s1 = r2.next fun k s' => (bf E.K m).listL o (l ++ [k]) s') := by
       unfold Hid; rw [htot2.out, if_pos trivial, HR2.out]
      clear htot2; go_wp2_with fail; refine HC2.out.mono ?_; rintro e w4 hpost; cases r2 with
      | ok k2 s4 =>
        obtain ⟨rfl, tv4, hp4, hf4⟩ := hpost; have HP4 := qd hp4; have HO4 := qd (hf4.own HP3.out HO3.out (by decide) (by decide)); have HF4 := qd (HF3.out.trans hf4); have hs4 : s2.i + 2 ≤ s4.i := by
         have h := (gq (n := m) HE.out.ends (au HE.out.ends m) (Lt.refl HP3.out.ik HP3.out.d0) (by have := HI3.out; have := HL3.out; omega) (Q := fun _ s5 => (aH E.K s2).i + 1 ≤ s5.i) (fun _ _ L _ => L.i)).ok HR2.out; have := HI3.out; omega
        have HS4 := qd hs4; have hlt2 : Hid (∀ g, (Value.slice va l.length vc).ownBlock = some g → g < wo.heap.size) := fun g hg => (ho2.out.lt g hg).2
        have HK4 : Hid (∀ g, (Value.slice va l.length vc).ownBlock = some g → w.heap.size ≤ g ∧ ¬ tv4.ks g) := fun g hg => ⟨(hks.out g hg).1, fun h => by
         rcases (HF23.out.trans hf4).ks g h with h1 | h1 | h1
         · exact (hks.out g hg).2 h1
         · have := hlt2.out g hg; omega
         · exact h1⟩
        have HLL : Hid (l.length + 1 ≤ 1000000000) := by unfold Hid; have := hlen.out; omega
        have hbl4 := HP4.out.bl; clear hp4 hf4 hs4; unfold ap; go_wp2_with (at_builtin; go_must (refine bQ cS rfl _ _ rfl E.B bC (.slice va l.length vc) l rfl (HO4.out.alloc _) w4.heap.size k2 #[.int .i64 k2] rfl (al _ _) rfl (by intro u hu; simp at hu; rw [hu]; rfl) HLL.out (by simp; omega) ?_)); intro g cap w5 h1 h2 h3; have HR5 : Hid (∀ q, (Value.slice va l.length vc).ownBlock = some q → E.B ≤ q ∧ q ≠ E.pb ∧ q ≠ E.tb ∧ q ≠ E.mb ∧ q ≠ E.kb ∧ q ≠ E.ab ∧ tv4.v.ownBlock ≠ some q ∧ ¬ tv4.ks q) := fun q hq => by
         obtain ⟨n1, n2, n3, n4⟩ := HP4.out.fix HE.out HO4.out (by decide); have n0 : (Value.slice va l.length vc).ownBlock ≠ some E.pb := dl HO4.out HP4.out.p (by decide); obtain ⟨T, -, hT, -⟩ := HP4.out.tree; refine ⟨(HO4.out.lt q hq).1, ?_, ?_, ?_, ?_, ?_, ?_, (HK4.out q hq).2⟩
         · rintro rfl; exact n0 hq
         · rintro rfl; exact n1 hq
         · rintro rfl; exact n2 hq
         · rintro rfl; exact n3 hq
         · rintro rfl; exact n4 hq
         · intro e1; exact kB HO4.out hT (by decide) (by rw [hq, e1]) (by rw [hq]; simp)
        have HP5 := qd (HP4.out.grow (br.alloc (Nat.le_refl _) _) h2 HR5.out); have HF5 : Hid (Fr E tv w tv4 w5) := ⟨(HF4.out.out.alloc _).grown h2 (fun q hq => .inr (HK4.out q hq).1), HF4.out.tvb, HF4.out.ks⟩; have HK5 : Hid (∀ q, (Value.slice (some ⟨g, 0, none⟩) (l.length + 1) cap).ownBlock = some q → w.heap.size ≤ q ∧ ¬ tv4.ks q) := fun q hq => by
         obtain rfl : g = q := by simpa [Value.ownBlock] using hq
         rcases h3 with h3 | h3
         · exact HK4.out g h3
         · have hz := HF4.out.out.size; have hge : w4.heap.size ≤ g := by first | omega | (rw [h3]; simp)
           exact ⟨by omega, fun h => by have := HP4.out.kslt g h; omega⟩
        have HO5 : Hid (Ow w5 E.B 3 1 bC (.slice (some ⟨g, 0, none⟩) (l.length + 1) cap) (l ++ [k2])) := h1; clear h1 h2 h3; go_wp2_with fail; go_roundw
        case rel => exact ⟨m, l ++ [k2], s4, tv4, HT3.out, by omega, by have := HS4.out; omega, HP5.out, HF5.out, HO5.out, by have := HS4.out; simp; omega, HK5.out⟩
        case measure => simp [iv]; omega
      | err c p =>
        obtain ⟨rfl, tv4, hf4⟩ := hpost; have HF4 := qd (HF3.out.trans hf4); clear hf4; unfold bi; go_wp2_with fail; refine ⟨rfl, ?_⟩; rw [HPP.out]; show da E tv w ((bf E.K n).listL o [k] s1) _ _; rw [HT3.out]; exact ⟨tv4, rfl, cH.of HF4.out (Nat.le_refl _) (fun _ h => h.elim)⟩
      | stuck => exact hpost.elim
 | err c p =>
   obtain ⟨rfl, rest⟩ := hpost; have HRS := qd rest; clear rest; unfold bi; go_wp2_with fail; refine ⟨rfl, ?_⟩; rw [HPP.out]; obtain ⟨tv4, hf4⟩ := HRS.out; exact ⟨tv4, rfl, cH.of hf4 (Nat.le_refl _) (fun _ h => h.elim)⟩
 | stuck => exact hpost.elim
def aY (E : aN) (n : Nat) : Prop := ∀ m, m ≤ n → IH E m
theorem aY.here {E : aN} {n : Nat} (h : aY E n) : IH E n := h n (Nat.le_refl _)
theorem aY.less {E : aN} {n m : Nat} (h : aY E n) (hm : m ≤ n) : aY E m := fun k hk => h k (Nat.le_trans hk hm)
section
variable {α γ : Type} {E : aN} {b : Bd} {V : α → Value → TV → World → Prop} {PP : Ending → World → Prop} {s s1 : St} {tv tv1 : TV} {w w1 W : World} {r r1 : R α}
theorem aE.iTn {p q : Pm γ} {g : γ → Pm α} (h : aE E b V PP s tv w (((if true = true then p else q : Pm γ) >>= g) s1)) : aE E b V PP s tv w ((p >>= g) s1) := h
theorem aE.iFn {p q : Pm γ} {g : γ → Pm α} (h : aE E b V PP s tv w (((if false = true then p else q : Pm γ) >>= g) s1)) : aE E b V PP s tv w ((q >>= g) s1) := h
theorem sq (E : aN) (s : St) (tv : TV) (w : World) (hE : ax E) (hp : PI E s tv w) :
 Calls Tryz.prog 49 #[.pointer (some ⟨E.pb, 0, none⟩)] w (aQ E tv w (fun i => .agg #[.int .i64 (E.tk i).kind, .int .i64 (E.tk i).at1, .int .i64 (E.tk i).line, .string (E.tk i).text, .int .i64 (E.tk i).n]) (ident E.K s)) := jP E s tv w hE hp
theorem aE.must {x : ByteArray} {g : Unit → Pm α} {d : Nat} {s00 : St} {Q' : Ending → World → Prop} (HN : aE E b V PP s tv w r) (hE : ax E) (HL : Lt E.K d s00 s)
 (hok : ∀ a s1 tv1 w1, Hid (Go.Proofs.YthkebhjaaikopaaGreatDoor.must E.K x s = .ok a s1) → Lt E.K (d + 1) s00 s1 → Fr E tv w tv1 w1 → aE E b V PP s1 tv1 w1 (g a s1) → Q' (.returned (.tuple #[])) w1)
 (hr : r = (Go.Proofs.YthkebhjaaikopaaGreatDoor.must E.K x >>= g) s := by exact rfl) (herr : ∀ c x w1, PP (bi c x) w1 → Q' (bi c x) w1 := by exact fun _ _ _ hh => ⟨rfl, hh⟩) (hx : 0 < x.size := by first | decide | assumption) : Calls Tryz.prog 46 #[.pointer (some ⟨E.pb, 0, none⟩), .string x] w Q' :=
 HN.call br (eR E s tv x w hE HN.pi hx) (dW hE.ends HL) hok hr herr
theorem aE.take1 {t : ByteArray} {bb : Nat} {g : Bool → Pm α} {d : Nat} {s00 : St} {Q' : Ending → World → Prop} (HN : aE E b V PP s tv w r) (hE : ax E) (HL : Lt E.K d s00 s) (hb : bb = w.heap.size)
 (hok : ∀ a s1 tv1 w1, Hid (Go.Proofs.YthkebhjaaikopaaGreatDoor.take1 E.K t s = .ok a s1) → BG E.K d s00 s a s1 → Fr E tv w tv1 w1 → aE E b V PP s1 tv1 w1 (g a s1) → Q' (.returned (bV a)) w1)
 (hr : r = (Go.Proofs.YthkebhjaaikopaaGreatDoor.take1 E.K t >>= g) s := by exact rfl) (herr : ∀ c x w1, PP (bi c x) w1 → Q' (bi c x) w1 := by exact fun _ _ _ hh => ⟨rfl, hh⟩) (ht : 0 < t.size := by first | decide | assumption) : Calls Tryz.prog 22 #[.pointer (some ⟨E.pb, 0, none⟩), .slice (some ⟨bb, 0, none⟩) 1 1] (w.alloc (.cells #[.string t] 9)) Q' :=
 HN.call (ae rfl) (jB hE t HN.pi ht (ae rfl) (cI w [t] _ 1 bb rfl rfl hb (by simp))) (lw hE.ends HL) hok hr herr
theorem aE.ident {g : Nat → Pm α} {d : Nat} {s00 : St} {Q' : Ending → World → Prop} (HN : aE E b V PP s tv w r) (hE : ax E) (HL : Lt E.K d s00 s)
 (hok : ∀ a s1 tv1 w1, Hid (Go.Proofs.YthkebhjaaikopaaGreatDoor.ident E.K s = .ok a s1) → Lt E.K (d + 1) s00 s1 ∧ a = s.i → Fr E tv w tv1 w1 → aE E b V PP s1 tv1 w1 (g a s1) → Q' (.returned (.agg #[.int .i64 (E.tk a).kind, .int .i64 (E.tk a).at1, .int .i64 (E.tk a).line, .string (E.tk a).text, .int .i64 (E.tk a).n])) w1)
 (hr : r = (Go.Proofs.YthkebhjaaikopaaGreatDoor.ident E.K >>= g) s := by exact rfl) (herr : ∀ c x w1, PP (bi c x) w1 → Q' (bi c x) w1 := by exact fun _ _ _ hh => ⟨rfl, hh⟩) : Calls Tryz.prog 49 #[.pointer (some ⟨E.pb, 0, none⟩)] w Q' :=
 HN.call br (sq E s tv w hE HN.pi) (qY hE.ends HL) hok hr herr
theorem aE.expr {m : Nat} {g : Int → Pm α} {d : Nat} {s00 : St} {Q' : Ending → World → Prop} (HN : aE E b V PP s tv w r) (hE : ax E) (h : aY E m) (HL : Lt E.K d s00 s) (hn : 20 * (E.K.length - s.i) + 13 ≤ m)
 (hok : ∀ a s1 tv1 w1, Hid (Go.Proofs.YthkebhjaaikopaaGreatDoor.expr (bf E.K m) s = .ok a s1) → hZ E.K (d + 1) s00 a s1 → Fr E tv w tv1 w1 → aE E b V PP s1 tv1 w1 (g a s1) → Q' (.returned (ap a)) w1)
 (hr : r = (Go.Proofs.YthkebhjaaikopaaGreatDoor.expr (bf E.K m) >>= g) s := by exact rfl) (herr : ∀ c x w1, PP (bi c x) w1 → Q' (bi c x) w1 := by exact fun _ _ _ hh => ⟨rfl, hh⟩) : Calls Tryz.prog 145 #[.pointer (some ⟨E.pb, 0, none⟩)] w Q' :=
 HN.call br (iU h.here s tv w HN.pi hn) (kR (au hE.ends m) HL hn) hok hr herr
theorem aE.plV {t : Nat} {kind a l : Int} {text : ByteArray} {n : Int} {kv : Value} {kids : List Int} {Q' : Ending → World → Prop} {r : R Int} (HN : aE E b (VI ap) PP s tv w r) (hE : ax E) (hv : VL E b kids kv tv w) (hsz : text.size ≤ 1000000)
 (hok : ∀ k w1, PP (.returned (.int .i64 k)) w1 → Q' (.returned (.int .i64 k)) w1)
 (hr : r = Go.Proofs.YthkebhjaaikopaaGreatDoor.put t kind text n kids s := by exact rfl) (herr : ∀ c x w1, PP (bi c x) w1 → Q' (bi c x) w1 := by exact fun _ _ _ hh => ⟨rfl, hh⟩) : Calls Tryz.prog 24 #[.pointer (some ⟨E.pb, 0, none⟩), .agg (eP (E.tk t)), .agg (bB kind a l text n kv)] w Q' := HN.putLastV hE br hv hsz hok hr herr
theorem Lt.o {K : List KT} {d : Nat} {s s' : St} (h : Lt K d s s') : s.i + d ≤ s'.i ∧ s'.i < K.length := ⟨h.i, h.lt⟩
end
set_option maxRecDepth 100000 in
theorem lA {E : aN} {m : Nat} (hE : ax E) (h : aY E m) (a : Int) (s : St) (tv : TV) (w : World) (hp : PI E s tv w) (hn : 20 * (E.K.length - s.i) + 0 ≤ m) : Calls Tryz.prog 190 #[.pointer (some ⟨E.pb, 0, none⟩), .int .i64 a] w (da E tv w (span E.K (bf E.K m) a s)) := by
 have hmf : ∀ (fn : Fn) (first cap : Array Value) (w : World), (Instr.makeFunc fn first cap).run Tryz.prog w = .ok (.func fn first cap) w := fun _ _ _ _ => rfl
 refine aE.startL hp (fun PP HN0 => ?_); have HL0 := Lt.refl hp.ik hp.d0; clear hp; go_enter Tryz.func190, Tryz.ntmps190; go_wp2_with fail; refine HN0.must hE HL0 ?_; rintro _ s1 tv1 w1 HR1 HL1 HF1 HN1; clear HN0 HR1 HF1; go_wp2_with fail; refine HN1.expr hE h HL1 (by have := HL1.o; omega) ?_; rintro a2 s2 tv2 w2 HR2 ⟨HL2, HD2⟩ HF2 HN2; clear HN1 HR2 HF2; unfold ap; go_wp2_with fail; refine HN2.must hE HL2 ?_; rintro _ s3 tv3 w3 HR3 HL3 HF3 HN3; clear HN2 HR3 HF3; go_wp2_with fail; refine HN3.expr hE h HL3 (by have := HL3.o; omega) ?_; rintro a4 s4 tv4 w4 HR4 ⟨HL4, HD4⟩ HF4 HN4; clear HN3 HR4 HF4; unfold ap; go_wp2_with fail; exact (HN4.below (ae rfl)).retL rfl rfl (VL.lits HN4 [a, a2, a4] (by simp) rfl rfl rfl rfl)
set_option maxRecDepth 100000 in
theorem pT {E : aN} {m : Nat} (hE : ax E) (h : aY E m)  (s : St) (tv : TV) (w : World) (hp : PI E s tv w) (hn : 20 * (E.K.length - s.i) + 0 ≤ m) : Calls Tryz.prog 55 #[.pointer (some ⟨E.pb, 0, none⟩)] w (aQ E tv w ap (block E.K (bf E.K m) s)) := by
 have hmf : ∀ (fn : Fn) (first cap : Array Value) (w : World), (Instr.makeFunc fn first cap).run Tryz.prog w = .ok (.func fn first cap) w := fun _ _ _ _ => rfl
 refine aE.start hp (fun PP HN0 => ?_); have HL0 := Lt.refl hp.ik hp.d0; clear hp; go_enter Tryz.func55, Tryz.ntmps55; go_wp2_with fail; refine HN0.must hE HL0 ?_; rintro _ s1 tv1 w1 HR1 HL1 HF1 HN1; clear HN0 HR1 HF1; go_wp2_with fail; refine HN1.call br (h.here.seq s1 tv1 _ HN1.pi (by have := HL1.o; omega)) (ga HL1 ((au hE.ends m).seq s1 HL1.lt HL1.nn (by have := HL1.o; omega))) ?_; rintro a2 s2 tv2 w2 HR2 ⟨HL2, HD2⟩ HF2 HN2; clear HN1 HR2 HF2; unfold ap; go_wp2_with fail; refine HN2.must hE HL2 ?_; rintro _ s3 tv3 w3 HR3 HL3 HF3 HN3; clear HN2 HR3 HF3; go_wp2_with fail; exact HN3.ret rfl rfl
set_option maxRecDepth 100000 in
theorem iO {E : aN} {m : Nat} (hE : ax E) (h : aY E m) (l : List Int) (v : Value) (s : St) (tv : TV) (w : World) (hp : PI E s tv w) (hv : Ow w E.B 3 1 bC v l) : Calls Tryz.prog 54 #[.pointer (some ⟨E.pb, 0, none⟩), v] w (dn E (fun g => v.ownBlock = some g) tv w ap (head E.K l s)) := by
 have hmf : ∀ (fn : Fn) (first cap : Array Value) (w : World), (Instr.makeFunc fn first cap).run Tryz.prog w = .ok (.func fn first cap) w := fun _ _ _ _ => rfl
 obtain ⟨va, vc, rfl⟩ := hv.slice; refine aE.startH hp (fun PP HN0 => ?_); have HL0 := Lt.refl hp.ik hp.d0; clear hp; go_enter Tryz.func54, Tryz.ntmps54; go_wp2_with fail; refine HN0.quiet br (cW E s tv _ hE HN0.pi) ?_; intro w1 hb1 HN1; have HOv1 := Ow.keep hv hb1; clear hv HN0 hb1; replace HN1 := HN1.here rfl; go_wp2_with fail; generalize hW2 : World.alloc w1 _ = W2; have HMt2 : ag _ tv W2 (w1.heap.size) (eP (E.tk s.i)) 31 := ag.new HN1 hW2 rfl; have HN2 := HN1.below (ae hW2); have HZ2 := qd (ah hW2); have HOv2 := Ow.keep HOv1 (ae hW2); clear HOv1 HN1 hW2; generalize hW3 : World.alloc W2 _ = W3; have HMn3 : ag _ tv W3 (w1.heap.size + 1) (bB (62) (0) (0) (⟨#[]⟩) (0) (.slice va l.length vc)) 39 := ag.new HN2 hW3 (by have := HZ2.out; omega); have HN3 := HN2.below (ae hW3); have HZ3 := qd (ah hW3); have HMt3 := HMt2.below (ae hW3); have HOv3 := Ow.keep HOv2 (ae hW3); clear HMt2 HOv2 HN2 hW3; replace HN3 := HN3.assoc rfl; refine HN3.take1 hE HL0 (by have := HZ2.out; have := HZ3.out; omega) ?_; rintro x4 s4 tv4 w4 HR4 HG4 HF4 HN4; have HMt4 := HMt3.fr HN3.base HF4; have HMn4 := HMn3.fr HN3.base HF4; have HOv4 := Fr.own HF4 HN3.pi HOv3 (by decide) (by decide); clear HMt3 HMn3 HOv3 HN3 HR4 HF4; cases x4 with
 | true =>
   have HL4 := HG4.1 rfl; replace HN4 := HN4.iTn; unfold bV; go_wp2_with fail; refine HN4.call br (fQ E s4 tv4 1 255 _ hE HN4.pi) (kG hE.ends HL4) ?_; rintro a5 s5 tv5 w5 HR5 HL5 HF5 HN5; have HMt5 := HMt4.fr HN4.base HF5; have HMn5 := HMn4.fr HN4.base HF5; have HOv5 := Fr.own HF5 HN4.pi HOv4 (by decide) (by decide); clear HMt4 HMn4 HOv4 HN4 HR5 HF5; unfold ap; obtain ⟨t0, t1, t2, t3, t4, t5⟩ := HMt5.tok; obtain ⟨n0, n1, n2, n3, n4, n5, n6⟩ := HMn5.nd; have nf4 := HMn5.free 4; have hnetn : (w1.heap.size) ≠ (w1.heap.size + 1) := (HMt5.apart HMn5 (by decide)); have hnent := Ne.symm hnetn; go_wp2_with fail; clear t0 t1 t2 t3 t4 t5 n0 n1 n2 n3 n4 n5 n6 nf4 hnetn hnent; generalize hW6 : World.setCell w5 _ _ = W6; have HMt6 := HMt5.other (ag.outs hW6) (HMt5.apart HMn5 (by decide)); have HOv6 := bS HOv5 (ag.outs hW6) (fun g hg hS => dl HOv5 HMn5.at1 (by decide) (by rw [hg, hS])); have HN6 := HN5.box HMn5 (by decide) (ag.outs hW6); have HMn6 : ag _ tv5 W6 _ (bB (62) (0) (0) (⟨#[]⟩) (a5) (.slice va l.length vc)) 39 := HMn5.set hW6; have HZ6 := qd (aq hW6); clear HMt5 HOv5 HN5 HMn5 hW6; refine HN6.putLast hE br HOv6 (fun g hg => .inr hg) (by decide) ?_; intro k7 w7 hpp; have HPP := qd hpp; clear hpp ; go_wp2_with fail; exact HPP.out
 | false =>
   obtain rfl := HG4.2 rfl; replace HN4 := HN4.iFn; unfold bV; replace HN4 := HN4.pure rfl; obtain ⟨t0, t1, t2, t3, t4, t5⟩ := HMt4.tok; obtain ⟨n0, n1, n2, n3, n4, n5, n6⟩ := HMn4.nd; go_wp2_with fail; refine HN4.putLast hE br HOv4 (fun g hg => .inr hg) (by decide) ?_; intro k8 w8 hpp; have HPP := qd hpp; clear hpp t0 t1 t2 t3 t4 t5 n0 n1 n2 n3 n4 n5 n6; go_wp2_with fail; exact HPP.out
theorem aE.nil {α : Type} {E : aN} {b : Bd} {V : α → Value → TV → World → Prop} {PP : Ending → World → Prop} {s : St} {tv : TV} {w : World} {r : R α} (_ : aE E b V PP s tv w r) : VL E b [] (.slice none 0 0) tv w := VL.nil
section
variable {α γ : Type} {E : aN} {b : Bd} {V : α → Value → TV → World → Prop} {PP : Ending → World → Prop} {s s1 : St} {tv tv1 : TV} {w w1 W : World} {r r1 : R α}
theorem aE.block {m : Nat} {g : Int → Pm α} {d : Nat} {s00 : St} {Q' : Ending → World → Prop} (HN : aE E b V PP s tv w r) (hE : ax E) (h : aY E m) (HL : Lt E.K d s00 s) (hn : 20 * (E.K.length - s.i) + 0 ≤ m)
 (hok : ∀ a s1 tv1 w1, Hid (Go.Proofs.YthkebhjaaikopaaGreatDoor.block E.K (bf E.K m) s = .ok a s1) → hZ E.K (d + 1) s00 a s1 → Fr E tv w tv1 w1 → aE E b V PP s1 tv1 w1 (g a s1) → Q' (.returned (ap a)) w1)
 (hr : r = (Go.Proofs.YthkebhjaaikopaaGreatDoor.block E.K (bf E.K m) >>= g) s := by exact rfl) (herr : ∀ c x w1, PP (bi c x) w1 → Q' (bi c x) w1 := by exact fun _ _ _ hh => ⟨rfl, hh⟩) : Calls Tryz.prog 55 #[.pointer (some ⟨E.pb, 0, none⟩)] w Q' :=
 HN.call br (pT hE h s tv w HN.pi hn) (rp hE.ends (au hE.ends m) HL hn) hok hr herr
end
section
variable {E : aN} {m : Nat} {s s0 : St} {tv : TV} {w : World} {d : Nat}
theorem oq {K : List KT} (h : s.i < K.length) : (aH K s).i < K.length ∧ s.i ≤ (aH K s).i ∧ (aH K s).deep = s.deep := by
 unfold aH
 split
 · exact ⟨by assumption, by show s.i ≤ s.i + 1; omega, rfl⟩
 · exact ⟨h, Nat.le_refl _, rfl⟩
theorem nH (hE : ax E) (hi : s.i < E.K.length) (hd : 0 ≤ s.deep) (hn : 20 * (E.K.length - s.i) + 13 ≤ m) : ak (inner (bf E.K m)) s (ct E.K s) :=
 (eT (au hE.ends m) (Lt.refl hi hd) hn).mono fun _ _ h => ⟨h.1.less (by omega), h.2⟩
theorem lE (hE : ax E) (hi : s.i < E.K.length) (hd : 0 ≤ s.deep) (hn : 20 * (E.K.length - s.i) + 1 ≤ m) : ak (bf E.K m).ref s (ct E.K s) :=
 (eQ (au hE.ends m) (Lt.refl hi hd) hn).mono fun _ _ h => ⟨h.1.less (by omega), h.2⟩
theorem mu (hE : ax E) (h : aY E m) (hi : s.i < E.K.length) (hd : 0 ≤ s.deep) (hn : 20 * (E.K.length - s.i) + 13 ≤ m) : lg E 107 #[.pointer (some ⟨E.pb, 0, none⟩)] #[] (inner (bf E.K m)) s :=
 nI hE s hi hd hn fun tv w hp => dh hE h.here s tv w hp hn
theorem pS (hE : ax E) (h : aY E m) (hi : s.i < E.K.length) (hd : 0 ≤ s.deep) (hn : 20 * (E.K.length - s.i) + 1 ≤ m) : lg E 169 #[.pointer (some ⟨E.pb, 0, none⟩)] #[] (bf E.K m).ref s where
 deep _ _ e := ((lE hE hi hd hn).ok e).1.deep
 eg := sV
 does tv w hp := h.here.ref s tv w hp hn
theorem o7 (hE : ax E) (h : aY E m) (hi : s.i < E.K.length) (hd : 0 ≤ s.deep) (hn : 20 * (E.K.length - s.i) + 14 ≤ m) : lg E 171 #[.pointer (some ⟨E.pb, 0, none⟩)] #[] (bf E.K m).stmt s where
 deep _ _ e := (((au hE.ends m).stmt s hi hd hn).ok e).1.deep
 eg := un
 does tv w hp := h.here.stmt s tv w hp hn
theorem mI (hE : ax E) (h : aY E m) (hi : s.i < E.K.length) (hd : 0 ≤ s.deep) (hn : 20 * (E.K.length - s.i) + 2 ≤ m) : lg E 186 #[.pointer (some ⟨E.pb, 0, none⟩)] #[] (bf E.K m).unary s where
 deep _ _ e := (((au hE.ends m).unary s hi hd hn).ok e).1.deep
 eg := um
 does tv w hp := h.here.unary s tv w hp hn
theorem kW (hE : ax E) (h : aY E m) (s : St) (tv : TV) (w : World) (hp : PI E s tv w) (hn : 20 * (E.K.length - s.i) + 13 ≤ m) : Calls Tryz.prog 106 #[.pointer (some ⟨E.pb, 0, none⟩), .func (.func 107) #[.pointer (some ⟨E.pb, 0, none⟩)] #[]] w (aQ E tv w ap (braced E.K (inner (bf E.K m)) s)) := by
 obtain ⟨h1, h2, h3⟩ := oq hp.ik; exact jb E s tv 107 _ _ _ w hE hp (mu hE h h1 (by rw [h3]; exact hp.d0) (by omega))
theorem nZ (hE : ax E) (h : aY E m) (s : St) (tv : TV) (w : World) (hp : PI E s tv w) (hn : 20 * (E.K.length - s.i) + 1 ≤ m) : Calls Tryz.prog 106 #[.pointer (some ⟨E.pb, 0, none⟩), .func (.func 169) #[.pointer (some ⟨E.pb, 0, none⟩)] #[]] w (aQ E tv w ap (braced E.K (bf E.K m).ref s)) := by
 obtain ⟨h1, h2, h3⟩ := oq hp.ik; exact jb E s tv 169 _ _ _ w hE hp (pS hE h h1 (by rw [h3]; exact hp.d0) (by omega))
theorem gT (hE : ax E) (L : Lt E.K d s0 s) (hn : 20 * (E.K.length - s.i) + 13 ≤ m) : ak (braced E.K (inner (bf E.K m))) s (hZ E.K (d + 1) s0) :=
 jY hE.ends L fun s1 h1 L1 => nH hE L1.lt L1.nn (by omega)
theorem jq (hE : ax E) (L : Lt E.K d s0 s) (hn : 20 * (E.K.length - s.i) + 1 ≤ m) : ak (braced E.K (bf E.K m).ref) s (hZ E.K (d + 1) s0) :=
 jY hE.ends L fun s1 h1 L1 => lE hE L1.lt L1.nn (by omega)
theorem eM (hE : ax E) (h : aY E m) (s : St) (tv : TV) (w : World) (hp : PI E s tv w) (hn : 20 * (E.K.length - s.i) + 14 ≤ m) : Calls Tryz.prog 170 #[.pointer (some ⟨E.pb, 0, none⟩), .func (.func 171) #[.pointer (some ⟨E.pb, 0, none⟩)] #[]] w (aQ E tv w ap (within (bf E.K m).stmt s)) :=
 ig E s tv 171 _ _ _ w hE hp (o7 hE h hp.ik (by have := hp.d0; show 0 ≤ s.deep + 1; omega) hn)
theorem fF (hE : ax E) (h : aY E m) (s : St) (tv : TV) (w : World) (hp : PI E s tv w) (hn : 20 * (E.K.length - s.i) + 2 ≤ m) : Calls Tryz.prog 170 #[.pointer (some ⟨E.pb, 0, none⟩), .func (.func 186) #[.pointer (some ⟨E.pb, 0, none⟩)] #[]] w (aQ E tv w ap (within (bf E.K m).unary s)) :=
 ig E s tv 186 _ _ _ w hE hp (mI hE h hp.ik (by have := hp.d0; show 0 ≤ s.deep + 1; omega) hn)
theorem gP (hE : ax E) (L : Lt E.K d s0 s) (hn : 20 * (E.K.length - s.i) + 2 ≤ m) : ak (within (bf E.K m).unary) s (hZ E.K (d + 1) s0) :=
 oV L fun s' e hd => (au hE.ends m).unary s' (by rw [e]; exact L.lt) hd (by rw [e]; exact hn)
theorem kw (hE : ax E) (h : aY E m) (b : Bool) (s : St) (tv : TV) (w : World) (hp : PI E s tv w) (hn : 20 * (E.K.length - s.i) + 13 ≤ m) : Calls Tryz.prog 147 #[.pointer (some ⟨E.pb, 0, none⟩), .bool b, .func (.func 145) #[.pointer (some ⟨E.pb, 0, none⟩)] #[]] w (aQ E tv w ap (plainly b (expr (bf E.K m)) s)) :=
 gH E s tv b 145 _ _ _ w hE hp (jV hE h.here { s with mid := b } hp.ik hp.d0 hn)
theorem gQ (hE : ax E) {b : Bool} (L : Lt E.K d s0 s) (hn : 20 * (E.K.length - s.i) + 13 ≤ m) : ak (plainly b (expr (bf E.K m))) s (hZ E.K (d + 1) s0) :=
 m9 L fun s' e hd => (au hE.ends m).bin 0 s' (by omega) (by rw [e]; exact L.lt) hd (by rw [e]; exact hn)
theorem fU (hE : ax E) (o : gA) (N : Nat) (heg : ∀ args w, (callFunc N args).run Tryz.prog w = .ok (.enter N args) w) (hd : ∀ n, n ≤ m → ∀ s tv w, PI E s tv w → 20 * (E.K.length - s.i) + 13 ≤ n → Calls Tryz.prog N #[.pointer (some ⟨E.pb, 0, none⟩)] w (aQ E tv w ap (one E.K (bf E.K n) o s)))
 (s : St) (tv : TV) (w : World) (hp : PI E s tv w) (hn : 20 * (E.K.length - s.i) + 13 ≤ m) : Calls Tryz.prog 47 #[.pointer (some ⟨E.pb, 0, none⟩), .func (.func N) #[.pointer (some ⟨E.pb, 0, none⟩)] #[]] w (da E tv w (list E.K (bf E.K m) o s)) :=
 dN hE o (fun _ _ => True) (fun _ _ _ _ _ _ => trivial) N #[.pointer (some ⟨E.pb, 0, none⟩)] #[] heg (fun n hn s _ _ hf => ⟨fun tv w hp _ => by rw [Array.append_empty]; exact hd n hn s tv w hp hf⟩) s tv w hp trivial hn
theorem iJ (hE : ax E) (h : aY E m) (s : St) (tv : TV) (w : World) (hp : PI E s tv w) (hn : 20 * (E.K.length - s.i) + 13 ≤ m) : Calls Tryz.prog 47 #[.pointer (some ⟨E.pb, 0, none⟩), .func (.func 107) #[.pointer (some ⟨E.pb, 0, none⟩)] #[]] w (da E tv w (list E.K (bf E.K m) .inner s)) :=
 fU hE .inner 107 rd (fun n hn s tv w hp hf => dh hE (h n hn) s tv w hp hf) s tv w hp hn
theorem qQ (hE : ax E) (_ : aY E m) (s : St) (tv : TV) (w : World) (hp : PI E s tv w) (hn : 20 * (E.K.length - s.i) + 13 ≤ m) : Calls Tryz.prog 47 #[.pointer (some ⟨E.pb, 0, none⟩), .func (.func 101) #[.pointer (some ⟨E.pb, 0, none⟩)] #[]] w (da E tv w (list E.K (bf E.K m) .typ s)) :=
 fU hE .typ 101 uo (fun _ _ s tv w hp _ => fH E s tv w hE hp) s tv w hp hn
theorem qR (hE : ax E) (h : aY E m) (s : St) (tv : TV) (w : World) (hp : PI E s tv w) (hn : 20 * (E.K.length - s.i) + 13 ≤ m) : Calls Tryz.prog 47 #[.pointer (some ⟨E.pb, 0, none⟩), .func (.func 169) #[.pointer (some ⟨E.pb, 0, none⟩)] #[]] w (da E tv w (list E.K (bf E.K m) .ref s)) :=
 fU hE .ref 169 sV (fun n hn s tv w hp hf => (h n hn).ref s tv w hp (by omega)) s tv w hp hn
end
section
variable {α γ : Type} {E : aN} {b : Bd} {V : α → Value → TV → World → Prop} {PP : Ending → World → Prop} {s s1 : St} {tv tv1 : TV} {w w1 W : World} {r r1 : R α}
theorem aE.braced {m : Nat} {g : Int → Pm α} {d : Nat} {s00 : St} {Q' : Ending → World → Prop} (HN : aE E b V PP s tv w r) (hE : ax E) (h : aY E m) (HL : Lt E.K d s00 s) (hn : 20 * (E.K.length - s.i) + 13 ≤ m)
 (hok : ∀ a s1 tv1 w1, Hid (Go.Proofs.YthkebhjaaikopaaGreatDoor.braced E.K (inner (bf E.K m)) s = .ok a s1) → hZ E.K (d + 1) s00 a s1 → Fr E tv w tv1 w1 → aE E b V PP s1 tv1 w1 (g a s1) → Q' (.returned (ap a)) w1)
 (hr : r = (Go.Proofs.YthkebhjaaikopaaGreatDoor.braced E.K (inner (bf E.K m)) >>= g) s := by exact rfl) (herr : ∀ c x w1, PP (bi c x) w1 → Q' (bi c x) w1 := by exact fun _ _ _ hh => ⟨rfl, hh⟩) : Calls Tryz.prog 106 #[.pointer (some ⟨E.pb, 0, none⟩), .func (.func 107) #[.pointer (some ⟨E.pb, 0, none⟩)] #[]] w Q' :=
 HN.call br (kW hE h s tv w HN.pi hn) (gT hE HL hn) hok hr herr
end
theorem ak.and {α : Type} {p : Pm α} {s : St} {Q Q' : α → St → Prop} (h : ak p s Q) (h' : ak p s Q') : ak p s fun a s1 => Q a s1 ∧ Q' a s1 := by
 unfold ak at *; cases hp : p s <;> rw [hp] at h h'
 · exact ⟨h, h'⟩
 · trivial
 · exact h
section
variable {K : List KT} {d : Nat} {s0 : St}
theorem jN (hE : aM K) (o : gA) : ∀ (n : Nat) (l : List Int) (s : St), s.i < K.length → 0 ≤ s.deep → 20 * (K.length - s.i) + 1 ≤ n → l ≠ [] → ak ((bf K n).listL o l) s fun l' s' => l'.length + s.i ≤ s'.i + l.length ∧ l' ≠ []
 | 0, l, s, _, _, h, _ => by omega
 | n + 1, l, s, hi, hd, hn, hl => by
   unfold ak; rw [iK]
   by_cases h : aJ K 0 (⟨#[44]⟩ : ByteArray) s = true
   · rw [if_pos h]; obtain ⟨e, hlt⟩ := hE.step hi (bx h); have h1 := kC (o := o) (d := 0) hE (au hE n) (Lt.refl (s := aH K s) (by rw [e]; exact hlt) (by rw [e]; exact hd)) (by rw [e]; show 20 * (K.length - (s.i + 1)) + 13 ≤ n; omega); have hsi : (aH K s).i = s.i + 1 := by rw [e]
     unfold ak at h1; cases hq : one K (bf K n) o (aH K s) with
     | ok k s1 =>
       rw [hq] at h1; have hL := h1.1; have hLi := hL.i; have hLl := hL.lt; have h2 := jN hE o n (l ++ [k]) s1 hL.lt hL.nn (by omega) (by simp); unfold ak at h2; simp only [R.next]; cases hq2 : (bf K n).listL o (l ++ [k]) s1 with
       | ok l' s' =>
         rw [hq2] at h2; have h3 : l'.length + s1.i ≤ s'.i + (l ++ [k]).length := h2.1; simp only [List.length_append, List.length_singleton] at h3; exact ⟨by omega, h2.2⟩
       | err c x => trivial
       | stuck => rw [hq2] at h2; exact h2
     | err c x => trivial
     | stuck => rw [hq] at h1; exact h1
   · rw [if_neg h]; exact ⟨Nat.le_of_eq (Nat.add_comm _ _), hl⟩
def uF (K : List KT) (d : Nat) (s0 s : St) (l : List Int) (s1 : St) : Prop := Lt K d s0 s1 ∧ l.length + s.i ≤ s1.i ∧ l ≠ []
theorem bT {o : gA} {n : Nat} {s : St} (hE : aM K) (L : Lt K d s0 s) (hn : 20 * (K.length - s.i) + 13 ≤ n) : ak (list K (bf K n) o) s (uF K (d + 1) s0 s) := by
 refine (ak.and (pC hE (au hE n) L hn) (Q' := fun l s1 => l.length + s.i ≤ s1.i ∧ l ≠ []) ?_).mono fun _ _ h => ⟨h.1, h.2⟩
 refine ak.bind ((kC hE (au hE n) (Lt.refl L.lt L.nn) hn).mono fun k s1 h => ?_); have h1 := h.1.i; have h2 := h.1.lt; refine (jN hE o n [k] s1 h.1.lt h.1.nn (by omega) (by simp)).mono fun l' s' h => ⟨?_, h.2⟩
 have := h.1; simp at this; omega
theorem dL {f g : gA} {n : Nat} {s : St} (hE : aM K) (L : Lt K d s0 s) (hn : 20 * (K.length - s.i) + 13 ≤ n) : ak (pack K (bf K n) f g) s (uF K (d + 1) s0 s) := by
 refine (ak.and (r9 hE (au hE n) L hn) (Q' := fun l s1 => l.length + s.i ≤ s1.i ∧ l ≠ []) ?_).mono fun _ _ h => ⟨h.1, h.2⟩
 unfold pack; refine ak.bind ((kC hE (au hE n) (Lt.refl L.lt L.nn) hn).mono fun k s1 h => ?_); have h1 := h.1.i; have h2 := h.1.lt; refine ak.bind ((bD hE h.1).mono fun x s2 hx => ?_); cases x with
 | none =>
   obtain rfl := hx.2 rfl; exact ak.pure ⟨by simp; omega, by simp⟩
 | some j =>
   have h3 := hx.1 j rfl; have h4 := h3.i; have h5 := h3.lt; rcases j with _ | j
   · refine ak.bind ((bT hE h3 (by omega)).mono fun l s3 h6 => ?_); refine ak.bind ((dW hE (Lt.refl h6.1.lt h6.1.nn)).mono fun _ s4 h7 => ?_); have h8 := h7.i; have h9 := h6.2.1; exact ak.pure ⟨by simp; omega, by simp⟩
   · refine ak.bind ((bT hE h3 (by omega)).mono fun l s3 h6 => ?_); have h7 := h6.2.1; exact ak.pure ⟨by simp; omega, by simp⟩
end
theorem jf {w : World} {b : Nat} {vx : Value} {l2 : List Int} (h : Ow w b 3 1 bC vx l2) (hne : l2 ≠ []) : ∃ g c, vx = .slice (some ⟨g, 0, none⟩) l2.length c ∧ ∀ j u, (eF 1 bC l2)[j]? = some u → w.cell? ((⟨g, 0, none⟩ : Addr).add j) = some u := by
 have hp : 0 < l2.length := by
  cases l2 with
  | nil => exact absurd rfl hne
  | cons a l => simp
 have h' := h; unfold Ow at h; rcases h.2 with ⟨hv, hn⟩ | ⟨g, cap, cur, hv, _, _, _, _, _⟩
 · omega
 · subst hv; refine ⟨g, cap, rfl, fun j u hu => ?_⟩; have hj : j < l2.length * 1 := by
    have := (List.getElem?_eq_some_iff.1 hu).1; rwa [cN] at this
   have := World.ownsRow.cellAt h j hj; have e : (⟨g, 0, none⟩ : Addr).add j = ⟨g, j, none⟩ := by unfold Addr.add; split <;> simp_all
   rw [e, this, hu]
theorem oM (l : List Int) : ∀ u ∈ eF 1 bC l, u.oneCell' = true := by
 intro u hu; unfold eF at hu; obtain ⟨x, -, h2⟩ := List.mem_flatMap.1 hu; simp at h2; rw [h2]; rfl
theorem bR {w : World} {ops : Array Oper} {rest : List Oper} {o : Oper} {a : Act} {Q : Exit → Act → World → Prop} (hgd : o.guard = none) (s x : Operand)
 (ho : o.op = .call { callee := .builtin .append, args := #[s, x], argTypes := #[37, 37] })
 (base : Nat) (v : Value) (l : List Int) (hs : a.eval s = v) (hown : Ow w base 3 1 bC v l)
 (b2 : Nat) (vx : Value) (l2 : List Int) (hx : a.eval x = vx) (hox : Ow w b2 3 1 bC vx l2) (hne : l2 ≠ [])
 (h63 : l.length + l2.length ≤ 1000000000) (hbase : base ≤ w.heap.size)
 (h : ∀ (N g cap : Nat) w', Ow w' base 3 1 bC (.slice (some ⟨g, 0, none⟩) N cap) (l ++ l2) → w.grownBy w' v.ownBlock → (v.ownBlock = some g ∨ g = w.heap.size) → wpList Tryz.prog ops Q rest (a.put o.dst (.slice (some ⟨g, 0, none⟩) N cap)) w') : wpList Tryz.prog ops Q (o :: rest) a w := by
 obtain ⟨i, z, hi, hz, hs1, hz2, hby⟩ := cS.ex; obtain ⟨g, c, rfl, hnews⟩ := jf hox hne; have hp : 0 < l2.length := by
  cases l2 with
  | nil => exact absurd rfl hne
  | cons a l => simp
 have hle : (l ++ l2).length = l.length + l2.length := by simp
 refine wpList_append_lies w hgd s x 37 ho base 3 i z 1 i.bytes cS.und hi hz hs1 rfl hz2 (by decide) v l.length (eF 1 bC l) hs hown ⟨g, 0, none⟩ l2.length c (eF 1 bC l2) hx (cN _ _ _) hnews (oM l2) hp (by unfold maxLen; omega) ?_ hbase _ rfl ?_
 · have := Nat.mul_le_mul h63 hby
   omega
 · intro g cap w' h1 h2 h3 _; refine h (l.length + l2.length) g cap w' ?_ h2 h3; unfold Ow; rw [dX, hle]; exact h1
theorem fb {w : World} {ops : Array Oper} {o : Oper} {a : Act} {K : Act → World → Prop} {Q : Exit → Act → World → Prop} {EE : Prop} (hgd : o.guard = none) (s x : Operand)
 (ho : o.op = .call { callee := .builtin .append, args := #[s, x], argTypes := #[37, 37] })
 (base : Nat) (v : Value) (l : List Int) (hs : a.eval s = v) (hown : Ow w base 3 1 bC v l)
 (b2 : Nat) (vx : Value) (l2 : List Int) (hx : a.eval x = vx) (hox : Ow w b2 3 1 bC vx l2) (hne : l2 ≠ [])
 (h63 : l.length + l2.length ≤ 1000000000) (hbase : base ≤ w.heap.size)
 (h : ∀ (N g cap : Nat) w', Ow w' base 3 1 bC (.slice (some ⟨g, 0, none⟩) N cap) (l ++ l2) → w.grownBy w' v.ownBlock → (v.ownBlock = some g ∨ g = w.heap.size) → K (a.put o.dst (.slice (some ⟨g, 0, none⟩) N cap)) w') :
 if Region.wanted o (yielded ops a.tmps) = true then Oper.wp Tryz.prog o a w K Q else EE := by
 obtain ⟨i, z, hi, hz, hs1, hz2, hby⟩ := cS.ex; obtain ⟨g, c, rfl, hnews⟩ := jf hox hne; have hp : 0 < l2.length := by
  cases l2 with
  | nil => exact absurd rfl hne
  | cons a l => simp
 have hle : (l ++ l2).length = l.length + l2.length := by simp
 refine step_append_lies w hgd s x 37 ho base 3 i z 1 i.bytes cS.und hi hz hs1 rfl hz2 (by decide) v l.length (eF 1 bC l) hs hown ⟨g, 0, none⟩ l2.length c (eF 1 bC l2) hx (cN _ _ _) hnews (oM l2) hp (by unfold maxLen; omega) ?_ hbase _ rfl ?_
 · have := Nat.mul_le_mul h63 hby
   omega
 · intro g cap w' h1 h2 h3 _; refine h (l.length + l2.length) g cap w' ?_ h2 h3; unfold Ow; rw [dX, hle]; exact h1
end Go.Proofs.YthkebhjaaikopaaGreatDoor

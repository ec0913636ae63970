/- Part of the proof of SyntaxLooseCardSaid (PIx PJx). -/
import Derived.Test.YthkebhjaaikopaaGreatDoorM41
import Derived.Recover
import Derived.Defers
import Derived.IntWalk
set_option maxHeartbeats 8000000
namespace Go.Proofs.YthkebhjaaikopaaGreatDoor.Px
open Go.MapKept Go.ChangeShapes Go.WideShapes Go.ChangeAt Go.RowKit Go.Deep Go.Joins Go.Instr
end Go.Proofs.YthkebhjaaikopaaGreatDoor.Px
namespace Go.Proofs.YthkebhjaaikopaaGreatDoor
open Go.MapKept Go.ChangeShapes Go.WideShapes Go.ChangeAt Go.RowKit Go.Deep Go.Joins Go.Instr
theorem Sl.take {α : Type} [Inhabited α] {w : World} {sz : Nat} {enc : α → Nat → Value} {a : Option Addr} {cap m : Nat} {l : List α} (h : Sl w sz enc (.slice a l.length cap) l) (hm : m ≤ l.length) : Sl w sz enc (.slice a m cap) (l.take m) := by
  obtain ⟨a', c', e, h2, h3, h4⟩ := h; injection e with e1 e2 e3; subst e1; subst e3; have hl : (l.take m).length = m := by simp; omega
  refine ⟨a, cap, by rw [hl], by omega, h3, fun hp => ?_⟩; obtain ⟨b, off, e, hb, hc⟩ := h4 (by omega); refine ⟨b, off, e, hb, fun i hi j hj => ?_⟩; rw [hc i (by omega) j hj]; simp [List.getD_eq_getElem?_getD, show i < m by omega]
end Go.Proofs.YthkebhjaaikopaaGreatDoor
namespace Go.Proofs.YthkebhjaaikopaaGreatDoor.Px
open Go.MapKept Go.ChangeShapes Go.WideShapes Go.ChangeAt Go.RowKit Go.Deep Go.Joins Go.Instr
theorem kX (w : World) (a b c : Obj) : (((w.alloc a).alloc b).alloc c).heap[w.heap.size + 1]? = some b := by
  show (((w.heap.push a).push b).push c)[w.heap.size + 1]? = _; rw [Array.getElem?_push, if_neg (by simp), Array.getElem?_push, if_pos (by simp)]
theorem kY (w : World) (a b c : Obj) : (((w.alloc a).alloc b).alloc c).heap[w.heap.size + 1 + 1]? = some c := by
  show (((w.heap.push a).push b).push c)[w.heap.size + 1 + 1]? = _; rw [Array.getElem?_push, if_pos (by simp)]
def NP (Q : Exit → Act → World → Prop) : Exit → Act → World → Prop
  | .panic _, _, _ => False
  | e, a, w => Q e a w
theorem gZ {P : Program} {c : Code} {Q : Exit → Act → World → Prop} {a : Act} {w : World} (h : c.wp P (NP Q) a w) : c.wp P Q a w :=
  wp_mono h fun e a w h => by
    cases e with
    | panic c => exact h.elim
    | normal => exact h
    | exit id => exact h
    | goto l => exact h
    | ret => exact h
    | outgrown => exact h
theorem fe {Q : Exit → Act → World → Prop} {a : Act} {w : World} (h : Q .normal a w) : NP Q .normal a w := h
theorem gS {w4 w5 : World} {o : Obj} {v : Value} {B n k : Nat} {xs : List Value} (h : (w4.alloc o).drew.grownBy w5 v.ownBlock) (ho : w4.ownsRow B 31 5 v n xs) (hk : k < w4.heap.size) (hB : k < B) : w5.heap[k]? = w4.heap[k]? :=
  (h.block k (by show k < (w4.heap.push o).size; simp; omega) (fun e => by have := (ho.lt k e.symm).1; omega)).trans (Below.heap_alloc _ _ _ hk)
theorem di.below {wb : Nat} {g : Option Nat} {w w' : World} {B : Nat} (h : di wb g w w') (hb : B ≤ w.heap.size) (h1 : B ≤ wb) (h2 : ∀ k, g = some k → B ≤ k) : Below B w w' :=
  ⟨h.os, h.tape, h.output, h.size, fun k hk => h.block k (by omega) (by omega) (fun e => by have := h2 k e; omega)⟩
theorem oJ : tW #[] (fun _ => none) := fun _ => ⟨none, rfl, rfl⟩
theorem eG (p q r : Option Addr) (w : World) :
    CallsD Tryz.prog 127 #[.pointer p, .pointer q, .pointer r] .returning w fun e u' w' => e = .returned (.tuple #[]) ∧ u' = .returning ∧ w' = w := by
  refine callsD_of_wpS Tryz.func127 rfl fun c₀ cs hu => ?_
  apply wpS_seq; apply wpS_region; simp [wpOpsS, go_sem, recoverD, hu, Tryz.ntmps127, Exit.thenS]; apply wpS_seq; apply wpS_region; simp [wpOpsS, go_sem, recoverD, hu, Exit.thenS]; refine wpS_cond (t := false) (by simp [Act.eval, Array.replicate]) ?_; simp only [Bool.false_eq_true, if_false]; refine wpS_of_wp (wp_skip ?_); cases c₀
  simp_all [bodyPostS, results, Tryz.results127]

theorem sI (l : List ay) (v : Value) (w : World) (hs : Sl w 5 ay.enc v l) (hr : bG l = true) (hlen : l.length ≤ 8192) (hno : ∀ t ∈ l, eK 4 t ⟨#[35]⟩ = false) :
    Calls Tryz.prog 72 #[v, .bool false, .func (.func 73) #[] #[]] w fun e w' => ∃ v', e = .returned (.tuple #[v', .int .i64 0, .int .i64 0]) ∧ Sl w' 5 ay.enc v' l ∧ Below w.heap.size w w' := by
  have hmf : ∀ (fn : Fn) (first cap : Array Value) (w : World), (Instr.makeFunc fn first cap).run Tryz.prog w = .ok (.func fn first cap) w := fun _ _ _ _ => rfl
  have hmm := @run_makeMap Tryz.prog; have h0 : 0 < l.length := by
    unfold bG at hr; exact (of_decide_eq_true hr).1
  have hwf : ∀ W : World, W.heap.size = W.heap.size := fun _ => rfl
  obtain ⟨aa, ca, rfl, ma, HA⟩ := aV hs; have HS := qd hs; have HR := qd hr; have HN := qd hno; clear hs hr hno hwf
  go_enter_defers Tryz.func72, Tryz.ntmps72
  go_wp2_with fail; refine (fg _ l _ (HS.out.keep (((( Below.refl _ _).alloc (Nat.le_refl _) _).alloc (by simp <;> omega) _).alloc (by simp <;> omega) _)) HR.out).mono ?_; rintro e w1 ⟨rfl, hw1⟩; have HB1 : Hid (Below w.heap.size w w1) := (((( Below.refl _ _).alloc (Nat.le_refl _) _).alloc (by simp <;> omega) _).alloc (by simp <;> omega) _).trans (hw1.mono (by simp <;> omega)); have r0 := (hw1.cell (p := ⟨w.heap.size, 0, none⟩) (by simp <;> omega)).trans (show _ = some (Value.slice none 0 0) by simp [go_sem]); have r1 := (hw1.cell (p := ⟨w.heap.size + 1, 0, none⟩) (by simp <;> omega)).trans (show _ = some (Value.int .i64 0) by simp [go_sem]); have r2 := (hw1.cell (p := ⟨w.heap.size + 2, 0, none⟩) (by simp)).trans (show _ = some (Value.int .i64 0) by simp [go_sem]); have z0 := (hw1.frozen (p := ⟨w.heap.size, 0, none⟩) (by simp <;> omega)).trans (show _ = false by simp [go_sem]); have z1 := (hw1.frozen (p := ⟨w.heap.size + 1, 0, none⟩) (by simp <;> omega)).trans (show _ = false by simp [go_sem]); have z2 := (hw1.frozen (p := ⟨w.heap.size + 2, 0, none⟩) (by simp)).trans (show _ = false by simp [go_sem]); have hs1 := hw1.size; simp only [World.size_alloc] at hs1; clear hw1; go_wp2_with fail; refine (dG _ l _ (HS.out.keep HB1.out) h0 (by omega)).mono ?_; rintro e w2 ⟨v2, rfl, hown2, hB2⟩; obtain ⟨a2, c2, rfl⟩ := bF hown2; have HB2 := qd hB2; have HO2 := qd hown2; have HS2 := qd (dc hown2); obtain ⟨_, _, e, _, hx⟩ := aV HS2.out; injection e with e1 e2 e3; subst e1; subst e3; obtain ⟨b2, o2, rfl, hb2, hc2⟩ := hx.out h0; obtain rfl : o2 = 0 := by
    obtain ⟨g, cap, e, _⟩ := hown2.form h0; injection e with e1 e2 e3; injection e1 with e1; injection e1
  have hx1 := hc2 (l.length - 1) (by omega); have cc := cK (w := w2) (b := b2) (off := 0 + (l.length - 1) * 5) fun j hj => hx1 j hj
  have HX : Hid (l.take (l.length - 1) ++ [l.getD (l.length - 1) default] = l) := by
    have := dB l (l.length - 1) (by omega); exact this.symm.trans (by rw [show l.length - 1 + 1 = l.length by omega]; exact List.take_length)
  clear hc2 hx hx1 hown2 hB2; generalize l.getD (l.length - 1) default = x at *; obtain ⟨x0, x1, x2, x3, x4⟩ := x; obtain ⟨k0, k1, k2, k3, k4⟩ := cc; simp only [Nat.zero_add] at k0 k1 k2 k3 k4; go_wp2_with fail; generalize hW3 : World.alloc (World.alloc (World.alloc w2 _) _) _ = W3; have HG : Hid (Below w2.heap.size w2 W3) := by rw [← hW3]; exact (((br.alloc (Nat.le_refl _) _).alloc (by simp <;> omega) _).alloc (by simp <;> omega) _)
  have hs3 : w2.heap.size + 2 < W3.heap.size := by rw [← hW3]; simp [go_sem]
  have t0 : W3.cell? ⟨w2.heap.size, 0, none⟩ = some (.int .i64 x0) := by rw [← hW3]; simp [go_sem]
  have t1 : W3.cell? ⟨w2.heap.size, 1, none⟩ = some (.int .i64 x1) := by rw [← hW3]; simp [go_sem]
  have t2 : W3.cell? ⟨w2.heap.size, 2, none⟩ = some (.int .i64 x2) := by rw [← hW3]; simp [go_sem]
  have t3 : W3.cell? ⟨w2.heap.size, 3, none⟩ = some (.string x3) := by rw [← hW3]; simp [go_sem]
  have t4 : W3.cell? ⟨w2.heap.size, 4, none⟩ = some (.int .i64 x4) := by rw [← hW3]; simp [go_sem]
  have HM3 : Hid (W3.heap[w2.heap.size + 1]? = some (.map #[] 0)) := by rw [← hW3]; unfold Hid; exact kX w2 _ _ _
  have HW3 : Hid (Wk W3 (w2.heap.size + 1 + 1) false (w2.heap.size + 1) (.slice none 0 0) 0 (.slice none 0 0)) := by rw [← hW3]; exact kY w2 _ _ _
  clear hW3 k0 k1 k2 k3 k4; have hm1 : l.length - 1 ≤ l.length := by omega
  have HSt := qd ((HS2.out.keep HG.out).take hm1); have HNt : Hid (∀ t ∈ l.take (l.length - 1), eK 4 t ⟨#[35]⟩ = false) := fun t ht => HN.out t (List.mem_of_mem_take ht)
  have hml : (l.take (l.length - 1)).length ≤ 8192 := by simp; omega
  have hsb : w2.heap.size < W3.heap.size := by omega
  have hc2l : l.length ≤ c2 := by obtain ⟨_, _, e, h, _⟩ := HS2.out; injection e with e1 e2 e3; omega
  have n1 : IntKind.i64.wrap ((l.length : Int) - 1) = (l.length : Int) - 1 := IntWalk.i64_in _ (by omega); have n2 : (0 : Int) ≤ (l.length : Int) - 1 := by omega
  have n3 : ((l.length : Int) - 1).toNat = l.length - 1 := by omega
  have n4 : (l.length : Int) - 1 ≤ (c2 : Int) := by omega
  refine gZ ?_
  go_region_law (first | (go_simp; go_at_call 73; refine (nA (l.take (l.length - 1)) [] _ ⟨x0, x1, x2, x3, x4⟩ W3.heap.size (w2.heap.size + 1 + 1) (w2.heap.size + 1) 0 _ #[] 0 (fun _ => none) W3.drew HSt.out.drew HW3.out (World.ownsRow_nil _ _ _ _) (Nat.le_refl _) HM3.out oJ (fun _ _ _ => rfl) (by simpa using hml) HNt.out).mono ?_; rintro e w4 ⟨rfl, o4, hW4, hO4, hU4, hb4⟩))
  clear n1 n2 n3 n4; refine fe ?_; have hb4' : Hid (∀ g, o4.ownBlock = some g → W3.heap.size ≤ g) := fun g hg => (hb4 g hg).elim (fun h => by simp [Value.ownBlock] at h) id
  have HU := qd hU4; have HWk4 := qd hW4; have hml2 : (l.take (l.length - 1)).length = l.length - 1 := by simp
  have HO4 := qd (show w4.ownsRow W3.heap.size 31 5 o4 (l.length - 1) (fl (l.take (l.length - 1))) by simpa [hml2] using hO4); obtain ⟨a4, c4, rfl⟩ := bF HO4.out; clear hU4 hO4 hb4 hml2 hW4; have hsz4 : W3.heap.size ≤ w4.heap.size := HU.out.size; have hs21 := HB2.out.size; have hk : ∀ k, k < W3.heap.size → k ≠ w2.heap.size + 1 + 1 → w4.heap[k]? = W3.heap[k]? := fun k h1 h2 => HU.out.block k h1 h2 (by simp [Value.ownBlock])
  have HK := qd hk; clear hk; have HW31 : Hid (Below w1.heap.size w1 W3) := HB2.out.trans (HG.out.mono hs21); have k4 := HWk4.out.c4; have u0 := (World.cell?_of_block (a := ⟨w2.heap.size, 0, none⟩) (HK.out _ hsb (by simp <;> omega))).trans t0; have u1 := (World.cell?_of_block (a := ⟨w2.heap.size, 1, none⟩) (HK.out _ hsb (by simp <;> omega))).trans t1; have u2 := (World.cell?_of_block (a := ⟨w2.heap.size, 2, none⟩) (HK.out _ hsb (by simp <;> omega))).trans t2; have u3 := (World.cell?_of_block (a := ⟨w2.heap.size, 3, none⟩) (HK.out _ hsb (by simp <;> omega))).trans t3; have u4 := (World.cell?_of_block (a := ⟨w2.heap.size, 4, none⟩) (HK.out _ hsb (by simp <;> omega))).trans t4; have b0 : Hid (w4.heap[w.heap.size]? = w1.heap[w.heap.size]?) := (HK.out _ (by omega) (by omega)).trans (HW31.out.block _ (by omega)); have b1 : Hid (w4.heap[w.heap.size + 1]? = w1.heap[w.heap.size + 1]?) := (HK.out _ (by omega) (by omega)).trans (HW31.out.block _ (by omega)); have b2' : Hid (w4.heap[w.heap.size + 2]? = w1.heap[w.heap.size + 2]?) := (HK.out _ (by omega) (by omega)).trans (HW31.out.block _ (by omega)); have HR0 := qd r0; have HR1 := qd r1; have HR2 := qd r2; have HZ0 := qd z0; have HZ1 := qd z1; have HZ2 := qd z2; clear t0 t1 t2 t3 t4 r0 r1 r2 z0 z1 z2; have hlt4 : l.length - 1 + 1 ≤ 1000000000 := by omega
  have hwb4 : w2.heap.size + 1 + 1 < w4.heap.size := by omega
  have hwe4 : w2.heap.size < w4.heap.size := by omega
  go_wp2_with fail; refine gZ ?_
  go_region_law (refine gi rfl (.tmp 48) (.tmp 50) rfl W3.heap.size _ (l.length - 1) (l.take (l.length - 1)) rfl (HO4.out.alloc _).drew w4.heap.size x0 x1 x2 x3 x4 rfl (ew w4 _) hlt4 (by simp <;> omega) ?_; intro g cap w5 h1 h2 h3; have f0 := (World.cell?_of_block (a := ⟨w.heap.size, 0, none⟩) ((gS (k := w.heap.size) h2 HO4.out (by omega) (by omega)).trans b0.out)).trans HR0.out; have g0 := (World.frozen?_of_block (a := ⟨w.heap.size, 0, none⟩) ((gS (k := w.heap.size) h2 HO4.out (by omega) (by omega)).trans b0.out)).trans HZ0.out; have f1 := (World.cell?_of_block (a := ⟨w.heap.size + 1, 0, none⟩) ((gS (k := w.heap.size + 1) h2 HO4.out (by omega) (by omega)).trans b1.out)).trans HR1.out; have g1 := (World.frozen?_of_block (a := ⟨w.heap.size + 1, 0, none⟩) ((gS (k := w.heap.size + 1) h2 HO4.out (by omega) (by omega)).trans b1.out)).trans HZ1.out; have f2 := (World.cell?_of_block (a := ⟨w.heap.size + 2, 0, none⟩) ((gS (k := w.heap.size + 2) h2 HO4.out (by omega) (by omega)).trans b2'.out)).trans HR2.out; have g2 := (World.frozen?_of_block (a := ⟨w.heap.size + 2, 0, none⟩) ((gS (k := w.heap.size + 2) h2 HO4.out (by omega) (by omega)).trans b2'.out)).trans HZ2.out)
  all_goals
    refine fe ?_; have HOF := qd (ownsRow_setCell_below (ownsRow_setCell_below (ownsRow_setCell_below h1 (a := ⟨w.heap.size, 0, none⟩) (show w.heap.size < _ by omega) (.slice (some ⟨g, 0, none⟩) (l.length - 1 + 1) cap)) (a := ⟨w.heap.size + 1, 0, none⟩) (show w.heap.size + 1 < _ by omega) (.int .i64 0)) (a := ⟨w.heap.size + 1 + 1, 0, none⟩) (show w.heap.size + 1 + 1 < _ by omega) (.int .i64 0)); have HB4 : Hid (Below w.heap.size w w4) := (HB1.out.trans (HW31.out.mono (by omega))).drew.trans (HU.out.below (by show w.heap.size ≤ W3.heap.size; omega) (by omega) (fun k hk => by simp [Value.ownBlock] at hk)); have HB5 : Hid (Below w.heap.size w w5) := (((HB4.out.alloc (by omega) _).drew).grown h2 (by simp <;> omega) (fun k hk => by have := hb4'.out k hk; omega)); have HBF := qd (((HB5.out.setCell (p := ⟨w.heap.size, 0, none⟩) (Nat.le_refl _) (.slice (some ⟨g, 0, none⟩) (l.length - 1 + 1) cap)).setCell (p := ⟨w.heap.size + 1, 0, none⟩) (show w.heap.size ≤ w.heap.size + 1 by omega) (.int .i64 0)).setCell (p := ⟨w.heap.size + 1 + 1, 0, none⟩) (show w.heap.size ≤ w.heap.size + 1 + 1 by omega) (.int .i64 0)); rw [HX.out] at HOF; clear h1 h2 h3; go_wp2_with fail; refine leaves_cons (f := 127) (args := #[.pointer (some ⟨w.heap.size, 0, none⟩), .pointer (some ⟨w.heap.size + 1, 0, none⟩), .pointer (some ⟨w.heap.size + 1 + 1, 0, none⟩)]) (by simp) (by simp [go_sem]) ?_; refine (eG _ _ _ _).mono ?_; rintro e u' w'' ⟨rfl, rfl, rfl⟩; simp [Leaves, settle, results, Tryz.results72, go_sem, f0, f1, f2]; exact ⟨dc HOF.out, HBF.out⟩

theorem sJ (l : List ay) (v : Value) (w : World) (hs : Sl w 5 ay.enc v l) (hr : bG l = true) (hlen : l.length ≤ 8192) (hno : ∀ t ∈ l, eK 1 t ⟨#[105, 110, 108, 105, 110, 101]⟩ = false ∧ eK 4 t ⟨#[123]⟩ = false ∧ eK 4 t ⟨#[125]⟩ = false) :
    Calls Tryz.prog 72 #[v, .bool true, .func (.func 79) #[] #[]] w fun e w' => ∃ v', e = .returned (.tuple #[v', .int .i64 0, .int .i64 0]) ∧ Sl w' 5 ay.enc v' l ∧ Below w.heap.size w w' := by
  have hmf : ∀ (fn : Fn) (first cap : Array Value) (w : World), (Instr.makeFunc fn first cap).run Tryz.prog w = .ok (.func fn first cap) w := fun _ _ _ _ => rfl
  have hmm := @run_makeMap Tryz.prog; have h0 : 0 < l.length := by
    unfold bG at hr; exact (of_decide_eq_true hr).1
  have hwf : ∀ W : World, W.heap.size = W.heap.size := fun _ => rfl
  obtain ⟨aa, ca, rfl, ma, HA⟩ := aV hs; have HS := qd hs; have HR := qd hr; have HN := qd hno; clear hs hr hno hwf
  go_enter_defers Tryz.func72, Tryz.ntmps72
  go_wp2_with fail; refine (fg _ l _ (HS.out.keep (((( Below.refl _ _).alloc (Nat.le_refl _) _).alloc (by simp <;> omega) _).alloc (by simp <;> omega) _)) HR.out).mono ?_; rintro e w1 ⟨rfl, hw1⟩; have HB1 : Hid (Below w.heap.size w w1) := (((( Below.refl _ _).alloc (Nat.le_refl _) _).alloc (by simp <;> omega) _).alloc (by simp <;> omega) _).trans (hw1.mono (by simp <;> omega)); have r0 := (hw1.cell (p := ⟨w.heap.size, 0, none⟩) (by simp <;> omega)).trans (show _ = some (Value.slice none 0 0) by simp [go_sem]); have r1 := (hw1.cell (p := ⟨w.heap.size + 1, 0, none⟩) (by simp <;> omega)).trans (show _ = some (Value.int .i64 0) by simp [go_sem]); have r2 := (hw1.cell (p := ⟨w.heap.size + 2, 0, none⟩) (by simp)).trans (show _ = some (Value.int .i64 0) by simp [go_sem]); have z0 := (hw1.frozen (p := ⟨w.heap.size, 0, none⟩) (by simp <;> omega)).trans (show _ = false by simp [go_sem]); have z1 := (hw1.frozen (p := ⟨w.heap.size + 1, 0, none⟩) (by simp <;> omega)).trans (show _ = false by simp [go_sem]); have z2 := (hw1.frozen (p := ⟨w.heap.size + 2, 0, none⟩) (by simp)).trans (show _ = false by simp [go_sem]); have hs1 := hw1.size; simp only [World.size_alloc] at hs1; clear hw1; go_wp2_with fail; refine (dG _ l _ (HS.out.keep HB1.out) h0 (by omega)).mono ?_; rintro e w2 ⟨v2, rfl, hown2, hB2⟩; obtain ⟨a2, c2, rfl⟩ := bF hown2; have HB2 := qd hB2; have HO2 := qd hown2; have HS2 := qd (dc hown2); obtain ⟨_, _, e, _, hx⟩ := aV HS2.out; injection e with e1 e2 e3; subst e1; subst e3; obtain ⟨b2, o2, rfl, hb2, hc2⟩ := hx.out h0; obtain rfl : o2 = 0 := by
    obtain ⟨g, cap, e, _⟩ := hown2.form h0; injection e with e1 e2 e3; injection e1 with e1; injection e1
  have hx1 := hc2 (l.length - 1) (by omega); have cc := cK (w := w2) (b := b2) (off := 0 + (l.length - 1) * 5) fun j hj => hx1 j hj
  have HX : Hid (l.take (l.length - 1) ++ [l.getD (l.length - 1) default] = l) := by
    have := dB l (l.length - 1) (by omega); exact this.symm.trans (by rw [show l.length - 1 + 1 = l.length by omega]; exact List.take_length)
  clear hc2 hx hx1 hown2 hB2; generalize l.getD (l.length - 1) default = x at *; obtain ⟨x0, x1, x2, x3, x4⟩ := x; obtain ⟨k0, k1, k2, k3, k4⟩ := cc; simp only [Nat.zero_add] at k0 k1 k2 k3 k4; go_wp2_with fail; generalize hW3 : World.alloc (World.alloc (World.alloc w2 _) _) _ = W3; have HG : Hid (Below w2.heap.size w2 W3) := by rw [← hW3]; exact (((br.alloc (Nat.le_refl _) _).alloc (by simp <;> omega) _).alloc (by simp <;> omega) _)
  have hs3 : w2.heap.size + 2 < W3.heap.size := by rw [← hW3]; simp [go_sem]
  have t0 : W3.cell? ⟨w2.heap.size, 0, none⟩ = some (.int .i64 x0) := by rw [← hW3]; simp [go_sem]
  have t1 : W3.cell? ⟨w2.heap.size, 1, none⟩ = some (.int .i64 x1) := by rw [← hW3]; simp [go_sem]
  have t2 : W3.cell? ⟨w2.heap.size, 2, none⟩ = some (.int .i64 x2) := by rw [← hW3]; simp [go_sem]
  have t3 : W3.cell? ⟨w2.heap.size, 3, none⟩ = some (.string x3) := by rw [← hW3]; simp [go_sem]
  have t4 : W3.cell? ⟨w2.heap.size, 4, none⟩ = some (.int .i64 x4) := by rw [← hW3]; simp [go_sem]
  have HM3 : Hid (W3.heap[w2.heap.size + 1]? = some (.map #[] 0)) := by rw [← hW3]; unfold Hid; exact kX w2 _ _ _
  have HW3 : Hid (Wk W3 (w2.heap.size + 1 + 1) true (w2.heap.size + 1) (.slice none 0 0) 0 (.slice none 0 0)) := by rw [← hW3]; exact kY w2 _ _ _
  clear hW3 k0 k1 k2 k3 k4; have hm1 : l.length - 1 ≤ l.length := by omega
  have HSt := qd ((HS2.out.keep HG.out).take hm1); have HNt : Hid (∀ t ∈ l.take (l.length - 1), eK 1 t ⟨#[105, 110, 108, 105, 110, 101]⟩ = false ∧ eK 4 t ⟨#[123]⟩ = false ∧ eK 4 t ⟨#[125]⟩ = false) := fun t ht => HN.out t (List.mem_of_mem_take ht)
  have hml : (l.take (l.length - 1)).length ≤ 8192 := by simp; omega
  have hsb : w2.heap.size < W3.heap.size := by omega
  have hc2l : l.length ≤ c2 := by obtain ⟨_, _, e, h, _⟩ := HS2.out; injection e with e1 e2 e3; omega
  have n1 : IntKind.i64.wrap ((l.length : Int) - 1) = (l.length : Int) - 1 := IntWalk.i64_in _ (by omega); have n2 : (0 : Int) ≤ (l.length : Int) - 1 := by omega
  have n3 : ((l.length : Int) - 1).toNat = l.length - 1 := by omega
  have n4 : (l.length : Int) - 1 ≤ (c2 : Int) := by omega
  refine gZ ?_
  go_region_law (first | (go_simp; go_at_call 79; refine (nJ (l.take (l.length - 1)) [] _ ⟨x0, x1, x2, x3, x4⟩ W3.heap.size (w2.heap.size + 1 + 1) (w2.heap.size + 1) 0 _ #[] 0 (fun _ => none) W3.drew HSt.out.drew HW3.out (World.ownsRow_nil _ _ _ _) (Nat.le_refl _) HM3.out oJ (fun _ _ _ => rfl) (by simpa using hml) HNt.out).mono ?_; rintro e w4 ⟨rfl, o4, hW4, hO4, hU4, hb4⟩))
  clear n1 n2 n3 n4; refine fe ?_; have hb4' : Hid (∀ g, o4.ownBlock = some g → W3.heap.size ≤ g) := fun g hg => (hb4 g hg).elim (fun h => by simp [Value.ownBlock] at h) id
  have HU := qd hU4; have HWk4 := qd hW4; have hml2 : (l.take (l.length - 1)).length = l.length - 1 := by simp
  have HO4 := qd (show w4.ownsRow W3.heap.size 31 5 o4 (l.length - 1) (fl (l.take (l.length - 1))) by simpa [hml2] using hO4); obtain ⟨a4, c4, rfl⟩ := bF HO4.out; clear hU4 hO4 hb4 hml2 hW4; have hsz4 : W3.heap.size ≤ w4.heap.size := HU.out.size; have hs21 := HB2.out.size; have hk : ∀ k, k < W3.heap.size → k ≠ w2.heap.size + 1 + 1 → w4.heap[k]? = W3.heap[k]? := fun k h1 h2 => HU.out.block k h1 h2 (by simp [Value.ownBlock])
  have HK := qd hk; clear hk; have HW31 : Hid (Below w1.heap.size w1 W3) := HB2.out.trans (HG.out.mono hs21); have k4 := HWk4.out.c4; have u0 := (World.cell?_of_block (a := ⟨w2.heap.size, 0, none⟩) (HK.out _ hsb (by simp <;> omega))).trans t0; have u1 := (World.cell?_of_block (a := ⟨w2.heap.size, 1, none⟩) (HK.out _ hsb (by simp <;> omega))).trans t1; have u2 := (World.cell?_of_block (a := ⟨w2.heap.size, 2, none⟩) (HK.out _ hsb (by simp <;> omega))).trans t2; have u3 := (World.cell?_of_block (a := ⟨w2.heap.size, 3, none⟩) (HK.out _ hsb (by simp <;> omega))).trans t3; have u4 := (World.cell?_of_block (a := ⟨w2.heap.size, 4, none⟩) (HK.out _ hsb (by simp <;> omega))).trans t4; have b0 : Hid (w4.heap[w.heap.size]? = w1.heap[w.heap.size]?) := (HK.out _ (by omega) (by omega)).trans (HW31.out.block _ (by omega)); have b1 : Hid (w4.heap[w.heap.size + 1]? = w1.heap[w.heap.size + 1]?) := (HK.out _ (by omega) (by omega)).trans (HW31.out.block _ (by omega)); have b2' : Hid (w4.heap[w.heap.size + 2]? = w1.heap[w.heap.size + 2]?) := (HK.out _ (by omega) (by omega)).trans (HW31.out.block _ (by omega)); have HR0 := qd r0; have HR1 := qd r1; have HR2 := qd r2; have HZ0 := qd z0; have HZ1 := qd z1; have HZ2 := qd z2; clear t0 t1 t2 t3 t4 r0 r1 r2 z0 z1 z2; have hlt4 : l.length - 1 + 1 ≤ 1000000000 := by omega
  have hwb4 : w2.heap.size + 1 + 1 < w4.heap.size := by omega
  have hwe4 : w2.heap.size < w4.heap.size := by omega
  go_wp2_with fail; refine gZ ?_
  go_region_law (refine gi rfl (.tmp 48) (.tmp 50) rfl W3.heap.size _ (l.length - 1) (l.take (l.length - 1)) rfl (HO4.out.alloc _).drew w4.heap.size x0 x1 x2 x3 x4 rfl (ew w4 _) hlt4 (by simp <;> omega) ?_; intro g cap w5 h1 h2 h3; have f0 := (World.cell?_of_block (a := ⟨w.heap.size, 0, none⟩) ((gS (k := w.heap.size) h2 HO4.out (by omega) (by omega)).trans b0.out)).trans HR0.out; have g0 := (World.frozen?_of_block (a := ⟨w.heap.size, 0, none⟩) ((gS (k := w.heap.size) h2 HO4.out (by omega) (by omega)).trans b0.out)).trans HZ0.out; have f1 := (World.cell?_of_block (a := ⟨w.heap.size + 1, 0, none⟩) ((gS (k := w.heap.size + 1) h2 HO4.out (by omega) (by omega)).trans b1.out)).trans HR1.out; have g1 := (World.frozen?_of_block (a := ⟨w.heap.size + 1, 0, none⟩) ((gS (k := w.heap.size + 1) h2 HO4.out (by omega) (by omega)).trans b1.out)).trans HZ1.out; have f2 := (World.cell?_of_block (a := ⟨w.heap.size + 2, 0, none⟩) ((gS (k := w.heap.size + 2) h2 HO4.out (by omega) (by omega)).trans b2'.out)).trans HR2.out; have g2 := (World.frozen?_of_block (a := ⟨w.heap.size + 2, 0, none⟩) ((gS (k := w.heap.size + 2) h2 HO4.out (by omega) (by omega)).trans b2'.out)).trans HZ2.out)
  all_goals
    refine fe ?_; have HOF := qd (ownsRow_setCell_below (ownsRow_setCell_below (ownsRow_setCell_below h1 (a := ⟨w.heap.size, 0, none⟩) (show w.heap.size < _ by omega) (.slice (some ⟨g, 0, none⟩) (l.length - 1 + 1) cap)) (a := ⟨w.heap.size + 1, 0, none⟩) (show w.heap.size + 1 < _ by omega) (.int .i64 0)) (a := ⟨w.heap.size + 1 + 1, 0, none⟩) (show w.heap.size + 1 + 1 < _ by omega) (.int .i64 0)); have HB4 : Hid (Below w.heap.size w w4) := (HB1.out.trans (HW31.out.mono (by omega))).drew.trans (HU.out.below (by show w.heap.size ≤ W3.heap.size; omega) (by omega) (fun k hk => by simp [Value.ownBlock] at hk)); have HB5 : Hid (Below w.heap.size w w5) := (((HB4.out.alloc (by omega) _).drew).grown h2 (by simp <;> omega) (fun k hk => by have := hb4'.out k hk; omega)); have HBF := qd (((HB5.out.setCell (p := ⟨w.heap.size, 0, none⟩) (Nat.le_refl _) (.slice (some ⟨g, 0, none⟩) (l.length - 1 + 1) cap)).setCell (p := ⟨w.heap.size + 1, 0, none⟩) (show w.heap.size ≤ w.heap.size + 1 by omega) (.int .i64 0)).setCell (p := ⟨w.heap.size + 1 + 1, 0, none⟩) (show w.heap.size ≤ w.heap.size + 1 + 1 by omega) (.int .i64 0)); rw [HX.out] at HOF; clear h1 h2 h3; go_wp2_with fail; refine leaves_cons (f := 127) (args := #[.pointer (some ⟨w.heap.size, 0, none⟩), .pointer (some ⟨w.heap.size + 1, 0, none⟩), .pointer (some ⟨w.heap.size + 1 + 1, 0, none⟩)]) (by simp) (by simp [go_sem]) ?_; refine (eG _ _ _ _).mono ?_; rintro e u' w'' ⟨rfl, rfl, rfl⟩; simp [Leaves, settle, results, Tryz.results72, go_sem, f0, f1, f2]; exact ⟨dc HOF.out, HBF.out⟩

def nz (l : List ay) (w : World) (e : Ending) (w' : World) : Prop := ∃ v', e = .returned (.tuple #[v', .int .i64 0, .int .i64 0]) ∧ Sl w' 5 ay.enc v' l ∧ Below w.heap.size w w'
theorem kJ (l : List ay) (v : Value) (w : World) (hs : Sl w 5 ay.enc v l) (hr : bG l = true) (hlen : l.length ≤ 8192) (hno : ∀ t ∈ l, eK 4 t ⟨#[35]⟩ = false) :
    Calls Tryz.prog 31 #[v] w (nz l w) := by
  obtain ⟨aa, ca, rfl, ma, HA⟩ := aV hs; clear HA ma; have HS := qd hs; have HR := qd hr; have HN := qd hno; clear hs hr hno; go_enter Tryz.func31, Tryz.ntmps31; go_wp2_with fail; refine (sI l _ _ HS.out HR.out hlen HN.out).mono ?_; rintro e w1 ⟨v1, rfl, hs1, hB1⟩; have HS1 := qd hs1; have HB1 := qd hB1; clear hs1 hB1; go_wp2; go_ret3; exact ⟨v1, rfl, HS1.out, HB1.out⟩
def lZ (l : List ay) (w : World) (e : Ending) (w' : World) : Prop := ∃ v', e = .returned (.tuple #[v', .int .i64 0, .int .i64 0]) ∧ Sl w' 5 ay.enc v' l ∧ Below w.heap.size w w'
theorem jm (l : List ay) (v : Value) (w : World) (hs : Sl w 5 ay.enc v l) (hr : bG l = true) (hlen : l.length ≤ 8192) (hno : ∀ t ∈ l, eK 1 t ⟨#[105, 110, 108, 105, 110, 101]⟩ = false ∧ eK 4 t ⟨#[123]⟩ = false ∧ eK 4 t ⟨#[125]⟩ = false) :
    Calls Tryz.prog 32 #[v] w (lZ l w) := by
  obtain ⟨aa, ca, rfl, ma, HA⟩ := aV hs; clear HA ma; have HS := qd hs; have HR := qd hr; have HN := qd hno; clear hs hr hno; go_enter Tryz.func32, Tryz.ntmps32; go_wp2_with fail; refine (sJ l _ _ HS.out HR.out hlen HN.out).mono ?_; rintro e w1 ⟨v1, rfl, hs1, hB1⟩; have HS1 := qd hs1; have HB1 := qd hB1; clear hs1 hB1; go_wp2; go_ret3; exact ⟨v1, rfl, HS1.out, HB1.out⟩
end Go.Proofs.YthkebhjaaikopaaGreatDoor.Px

/-
  auto.Walk: the ways of a place of the call's own are renamed where they lie.
-/
import Derived.Test.YtioacgjggogflabQA
namespace Go.Proofs.Ytioacgjggogflab
open Go.ChangeShapes Go.WideShapes Go.ChangeAt Go.RowKit Go.Deep Go.Joins Go.Instr
theorem fle_tr_set (v : Int) : ∀ (l : List TrD) (j : Nat), j < l.length → fle 9 TrD.enc (l.set j { l.getD j default with to := v }) = (fle 9 TrD.enc l).set (j * 9 + 7) (.int .i64 v)
  | [], j, h => absurd h (by simp)
  | x :: l, 0, _ => rfl
  | x :: l, j + 1, h => by
    have ih := fle_tr_set v l j (by simpa using h)
    have e : (x :: l).getD (j + 1) default = l.getD j default := by simp [List.getD_eq_getElem?_getD]
    have e2 : ∀ l' : List TrD, fle 9 TrD.enc (x :: l') = (List.range 9).map (TrD.enc x) ++ fle 9 TrD.enc l' := fun l' => rfl
    rw [e, List.set_cons_succ, e2, e2, ih, show (j + 1) * 9 + 7 = ((List.range 9).map (TrD.enc x)).length + (j * 9 + 7) by simp; omega]
    rw [List.set_append_right _ _ (by omega)]
    congr 2
    omega
def curR (N : List Int) (l : List TrD) (j : Nat) : List TrD := (l.take j).map (ren N) ++ l.drop j
theorem curR_len (N : List Int) (l : List TrD) (j : Nat) : (curR N l j).length = l.length := by
  unfold curR
  rw [List.length_append, List.length_map, ← List.length_append, List.take_append_drop]
theorem curR_at (N : List Int) (l : List TrD) (j : Nat) (h : j < l.length) : (curR N l j).getD j default = l.getD j default := by
  unfold curR
  rw [List.getD_eq_getElem?_getD, List.getD_eq_getElem?_getD, List.getElem?_append_right (by simp; omega)]
  simp [show min j l.length = j by omega]
theorem curR_step (N : List Int) (l : List TrD) (j : Nat) (h : j < l.length) : curR N l (j + 1) = (curR N l j).set j (ren N (l.getD j default)) := by
  unfold curR
  have h1 : ((l.take j).map (ren N)).length = j := by simp; omega
  have hd : l.drop j = l.getD j default :: l.drop (j + 1) := by
    rw [List.getD_eq_getElem?_getD, List.getElem?_eq_getElem h]
    exact List.drop_eq_getElem_cons h
  rw [List.set_append_right _ _ (by omega), h1, Nat.sub_self, map_take_snoc (ren N) l j h, hd]
  simp
theorem curR_zero (N : List Int) (l : List TrD) : curR N l 0 = l := by simp [curR]
theorem curR_end (N : List Int) (l : List TrD) : curR N l l.length = l.map (ren N) := by simp [curR]
/-- Rows of their own that have no block in common. -/
def Dis (L : List EsD) : Prop := ∀ i j, i < j → j < L.length → ∀ k, (L.getD i default).v.ownBlock = some k → (L.getD j default).v.ownBlock ≠ some k
theorem Dis.ne {L : List EsD} (h : Dis L) {i j : Nat} (hij : i ≠ j) (hi : i < L.length) (hj : j < L.length) {k : Nat} (hk : (L.getD i default).v.ownBlock = some k) : (L.getD j default).v.ownBlock ≠ some k := by
  rcases Nat.lt_or_gt_of_ne hij with h1 | h1
  · exact h i j h1 hj k hk
  · exact fun e => h j i h1 hi k e hk
/-- A place whose rows are the call's own. -/
structure LoO (w : World) (B : Nat) (y : LoD) : Prop where
  rows : ∀ e ∈ lsOf y, Ow w B 40 9 TrD.enc e.v e.l
  ev : Ow w B 33 1 EsD.enc y.ev y.esc
  dis : Dis (lsOf y)
def InL (y : LoD) (k : Nat) : Prop := ∃ q, q < (lsOf y).length ∧ ((lsOf y).getD q default).v.ownBlock = some k
def curA (N : List Int) (y : LoD) (i j q : Nat) : List TrD := if q < i then ((lsOf y).getD q default).l.map (ren N) else if q = i then curR N ((lsOf y).getD q default).l j else ((lsOf y).getD q default).l
theorem InL.low {w : World} {B : Nat} {y : LoD} (h : LoO w B y) {k : Nat} (hk : InL y k) : B ≤ k ∧ k < w.heap.size := by
  obtain ⟨q, hq, hv⟩ := hk
  exact (h.rows _ (mem_getD hq)).lt k hv
theorem LoO.sl {w : World} {B : Nat} {y : LoD} (h : LoO w B y) : Sl w 9 TrD.enc y.ov y.out ∧ Sl w 1 EsD.enc y.ev y.esc ∧ ∀ e ∈ y.esc, Sl w 9 TrD.enc e.v e.l :=
  ⟨sl_of_ow (h.rows ⟨y.ov, y.out⟩ (List.mem_cons_self ..)), sl_of_ow h.ev, fun e he => sl_of_ow (h.rows e (List.mem_cons_of_mem _ he))⟩
set_option maxHeartbeats 2000000 in
/-- Each way of a place is renamed where it lies. -/
theorem ren_loc (N : List Int) (nb B B2 : Nat) (nv : Value) (y : LoD) (w : World) (h : LoO w B y) (hn : w.heap[nb]? = some (.cells #[nv] 27 (0, 0))) (hN : Ow w B2 3 1 iEnc nv N) (hlo : loB N.length y = true) :
    Calls Try.prog 9 #[y.val, .func (.func 15) #[] #[.pointer (some ⟨nb, 0, none⟩)]] w fun e w' => e = .returned (.tuple #[]) ∧ (∀ q, q < (lsOf y).length → Ow w' B 40 9 TrD.enc ((lsOf y).getD q default).v (((lsOf y).getD q default).l.map (ren N))) ∧ OutsP (InL y) w w' := by
  have hnb := lt_of_block hn
  have hnS : ∀ k, InL y k → k ≠ nb := fun k hk e => by
    obtain ⟨q, hq, hv⟩ := hk
    exact ow_neE (h.rows _ (mem_getD hq)) hn (by decide) (by rw [hv, e])
  have hNS : ∀ k, InL y k → nv.ownBlock ≠ some k := fun k hk e => by
    obtain ⟨q, hq, hv⟩ := hk
    exact ow_ne3 (h.rows _ (mem_getD hq)) hN (by decide) (by rw [hv, e]) (by rw [hv]; simp)
  have heS : ∀ k, InL y k → y.ev.ownBlock ≠ some k := fun k hk e => by
    obtain ⟨q, hq, hv⟩ := hk
    exact ow_ne3 (h.rows _ (mem_getD hq)) h.ev (by decide) (by rw [hv, e]) (by rw [hv]; simp)
  refine (each_15 y _ w h.sl.1 h.sl.2.1 h.sl.2.2 (fun i j w' => (∀ q, q < (lsOf y).length → Ow w' B 40 9 TrD.enc ((lsOf y).getD q default).v (curA N y i j q)) ∧ OutsP (InL y) w w') (fun w' hb => ?_) (fun i j b off c' c w1 hi hj hv hI hz => ?_) (fun i w1 hi hI => ?_)).mono ?_
  · refine ⟨fun q hq => ?_, OutsP.of_below hb⟩
    have e : curA N y 0 0 q = ((lsOf y).getD q default).l := by
      unfold curA
      rw [if_neg (by omega)]
      split
      · exact curR_zero _ _
      · rfl
    rw [e]
    exact (h.rows _ (mem_getD hq)).keep hb
  · obtain ⟨hrows, ho⟩ := hI
    have hri := hrows i hi
    have ei : curA N y i j i = curR N ((lsOf y).getD i default).l j := by simp [curA]
    rw [ei] at hri
    obtain ⟨g, cap, hform⟩ := ownsRow_form hri (by rw [curR_len]; omega)
    have hin := lo_in hlo hi hj
    obtain ⟨t0, t1⟩ := inF_iff.1 hin
    obtain ⟨p, hp⟩ : ∃ p : Nat, (((lsOf y).getD i default).l.getD j default).to = (p : Int) := ⟨_, (Int.toNat_of_nonneg t0).symm⟩
    have hform2 := hform
    rw [hv] at hform2
    injection hform2 with q1 q2 q3
    injection q1 with q1
    injection q1 with q4 q5 _
    subst q4; subst q5; subst q2; subst q3
    have hInL : InL y b := ⟨i, hi, by rw [hv]; rfl⟩
    obtain ⟨a, c2, e2, -, H⟩ := sl_open (sl_of_ow hri)
    obtain ⟨b2, o2, e3, hb2, hc⟩ := H.out (by rw [curR_len]; omega)
    rw [hv, e3] at e2
    injection e2 with e2 _ _
    injection e2 with e2
    injection e2 with e4 e5 _
    subst e4; subst e5
    have hcell := hc j (by rw [curR_len]; exact hj) 7 (by omega)
    rw [curR_at _ _ _ hj] at hcell
    simp only [TrD.enc] at hcell
    rw [hp] at hcell
    have hn1 := (ho.block nb hnb (fun h => hnS nb h rfl)).trans hn
    have hN1 : Sl w1 1 iEnc nv N := sl_of_ow (show Ow w1 B2 3 1 iEnc nv N from own_outs hN ho (fun g hg hS => hNS g hS hg))
    refine (do_ren p N nb b (0 + j * 9) nv w1 hn1 hN1 (by omega) hcell (by rw [hv] at hri; exact World.ownsRow.frozenAt hri _)).mono ?_
    rintro e w2 ⟨rfl, rfl⟩
    have hbl := InL.low h hInL
    refine ⟨rfl, ⟨fun q hq => ?_, ho.drew.setCell (p := ⟨b, 0 + j * 9 + 7, none⟩) (.inl hInL) _⟩, by simp, Below.heap_setCell _ _ _ _ (by show w.heap.size ≠ b; omega), fun k hk h0 hl => Below.heap_setCell _ _ _ _ (fun e => heS b hInL (by rw [hk, e]))⟩
    by_cases hqi : q = i
    · subst hqi
      have e1 : curA N y q (j + 1) q = (curR N ((lsOf y).getD q default).l j).set j { (curR N ((lsOf y).getD q default).l j).getD j default with to := N.getD p default } := by
        have e0 : curA N y q (j + 1) q = curR N ((lsOf y).getD q default).l (j + 1) := by simp [curA]
        rw [e0, curR_step _ _ _ hj, curR_at _ _ _ hj]
        unfold ren
        rw [hp, Int.toNat_natCast]
      have hst := (World.ownsRow.stored (show World.ownsRow w1.drew B 40 9 (.slice (some ⟨b, 0, none⟩) (curR N ((lsOf y).getD q default).l j).length c) (curR N ((lsOf y).getD q default).l j).length _ from by rw [hv] at hri; exact hri.keep (below_drew w1)) (0 + j * 9 + 7) (.int .i64 (N.getD p default))).1
      rw [e1, hv]
      unfold Ow
      rw [fle_tr_set _ _ _ (by rw [curR_len]; exact hj), List.length_set]
      rw [Nat.zero_add] at hst ⊢
      exact hst
    · have e1 : curA N y i (j + 1) q = curA N y i j q := by
        unfold curA
        simp only [if_neg hqi]
      rw [e1]
      exact ownsRow_setCell_other ((hrows q hq).keep (below_drew w1)) (a := ⟨b, 0 + j * 9 + 7, none⟩) (fun e => h.dis.ne hqi hq hi e (by rw [hv]; rfl)) _
  · obtain ⟨hrows, ho⟩ := hI
    refine ⟨fun q hq => ?_, ho⟩
    have e1 : curA N y (i + 1) 0 q = curA N y i ((lsOf y).getD i default).l.length q := by
      unfold curA
      by_cases h1 : q < i
      · rw [if_pos h1, if_pos (by omega)]
      · by_cases h2 : q = i
        · subst h2
          rw [if_pos (by omega), if_neg h1, if_pos rfl, curR_end]
        · rw [if_neg (by omega), if_neg h1, if_neg h2]
          split
          · exact curR_zero _ _
          · rfl
    rw [e1]
    exact hrows q hq
  · rintro e w' ⟨rfl, hrows, ho⟩
    refine ⟨rfl, fun q hq => ?_, ho⟩
    have := hrows q hq
    unfold curA at this
    rwa [if_pos hq] at this
end Go.Proofs.Ytioacgjggogflab

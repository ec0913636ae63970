/-
  How places are met: plain; the reference's meet.
-/
import Derived.Test.YtioacgjggogflabJ
namespace Go.Proofs.Ytioacgjggogflab
open Go.ChangeShapes Go.WideShapes Go.ChangeAt Go.RowKit Go.Deep Go.Joins Go.Instr
/-- The numbers, and the order in which places have been met. -/
abbrev St := List Int × List Int
def mt (p : Int) (s : St) : St := if s.1.getD p.toNat default < 0 then (s.1.set p.toNat s.2.length, s.2 ++ [p]) else s
def foldM (ts : List Int) (s : St) : St := ts.foldl (fun s t => mt t s) s
def scan (next : Int → List Int) : Nat → Nat → St → Nat × St
  | 0, d, s => (d, s)
  | f + 1, d, s => if d < s.2.length then scan next f (d + 1) (foldM (next (s.2.getD d default)) s) else (d, s)
def goA (next : Int → List Int) (F : Nat) : List Int → Nat × St → Nat × St
  | [], t => t
  | r :: rs, t => goA next F rs (scan next F t.1 (mt r t.2))
def cnt (N : List Int) : Nat := (N.filter fun x => decide (0 ≤ x)).length
theorem cnt_le (N : List Int) : cnt N ≤ N.length := List.length_filter_le _ _
theorem cnt_set : ∀ (N : List Int) (i : Nat) (v : Int), i < N.length → N.getD i default < 0 → 0 ≤ v → cnt (N.set i v) = cnt N + 1
  | [], i, v, h, _, _ => absurd h (by simp)
  | x :: N, 0, v, _, h, hv => by
    have hx : ¬ 0 ≤ x := by simp [List.getD_eq_getElem?_getD] at h; omega
    simp [cnt, hx, hv]
  | x :: N, i + 1, v, hi, h, hv => by
    have := cnt_set N i v (by simpa using hi) (by simpa [List.getD_eq_getElem?_getD] using h) hv
    unfold cnt at this ⊢
    simp only [List.set_cons_succ, List.filter_cons]
    split
    · simp [this]
    · exact this
/-- What is true of the numbers and the order. -/
structure StI (n : Nat) (s : St) : Prop where
  len : s.1.length = n
  cn : s.2.length ≤ cnt s.1
  ord : ∀ x ∈ s.2, inF n x = true
  num : ∀ x ∈ s.1, -1 ≤ x ∧ x ≤ n
theorem StI.le {n : Nat} {s : St} (h : StI n s) : s.2.length ≤ n := by
  have := cnt_le s.1
  have := h.cn
  have := h.len
  omega
theorem inF_iff {n : Nat} {i : Int} : inF n i = true ↔ 0 ≤ i ∧ i < n := by simp [inF]
theorem StI.mt {n : Nat} {s : St} {p : Int} (h : StI n s) (hp : inF n p = true) : StI n (mt p s) := by
  unfold Ytioacgjggogflab.mt
  split
  · rename_i hlt
    obtain ⟨h0, h1⟩ := inF_iff.1 hp
    refine ⟨by simpa using h.len, ?_, fun x hx => ?_, fun x hx => ?_⟩
    · have := cnt_set s.1 p.toNat (s.2.length : Int) (by rw [h.len]; omega) hlt (by omega)
      have := h.cn
      simp only [List.length_append, List.length_cons, List.length_nil]
      omega
    · rcases List.mem_append.1 hx with hx | hx
      · exact h.ord x hx
      · simp at hx; rw [hx]; exact hp
    · rcases List.mem_or_eq_of_mem_set hx with hx | rfl
      · exact h.num x hx
      · have := h.le
        omega
  · exact h
theorem StI.foldM {n : Nat} : ∀ (ts : List Int) (s : St), StI n s → (∀ t ∈ ts, inF n t = true) → StI n (Ytioacgjggogflab.foldM ts s)
  | [], _, h, _ => h
  | t :: ts, _, h, ht => StI.foldM ts _ (h.mt (ht t (List.mem_cons_self ..))) (fun u hu => ht u (List.mem_cons_of_mem _ hu))
theorem foldM_snoc (l : List Int) (k : Nat) (s : St) (h : k < l.length) : foldM (l.take (k + 1)) s = mt (l.getD k default) (foldM (l.take k) s) := by
  unfold foldM
  rw [List.take_succ_eq_append_getElem h, List.foldl_append, List.getD_eq_getElem?_getD, List.getElem?_eq_getElem h]
  rfl
/-- A graph of the reference's. -/
structure Gr (w : World) (base gb : Nat) (nv ov : Value) (s : St) : Prop where
  g : w.heap[gb]? = some (.cells #[nv, ov] 51 (0, 0))
  n : Ow w base 3 1 iEnc nv s.1
  o : Ow w base 3 1 iEnc ov s.2
  d : ∀ k, nv.ownBlock = some k → ov.ownBlock ≠ some k
def MeetP (w : World) (base gb : Nat) (nv ov : Value) (s : St) (e : Ending) (w' : World) : Prop :=
  e = .returned (.tuple #[]) ∧ ∃ ov', Gr w' base gb nv ov' s ∧ OutsP (fun k => k = gb ∨ nv.ownBlock = some k ∨ ov.ownBlock = some k) w w' ∧ ∀ k, ov'.ownBlock = some k → ov.ownBlock = some k ∨ w.heap.size ≤ k
theorem ow_ne {α : Type} {w : World} {base sz gb : Nat} {enc : α → Nat → Value} {v : Value} {l : List α} {cs : Array Value} (h : Ow w base 3 sz enc v l) (hg : w.heap[gb]? = some (.cells cs 51 (0, 0))) : v.ownBlock ≠ some gb := by
  intro e
  rcases h.2 with ⟨rfl, _⟩ | ⟨g, cap, cur, rfl, _, hh, _⟩
  · simp [Value.ownBlock] at e
  · obtain rfl : g = gb := by simpa [Value.ownBlock] using e
    rw [hg] at hh
    simp at hh
theorem fle_ints : ∀ (l : List Int), fle 1 iEnc l = l.map fun x => Value.int .i64 x
  | [] => rfl
  | x :: l => by
    have := fle_ints l
    simp only [fle, List.flatMap_cons, List.map_cons] at this ⊢
    rw [this]
    rfl
theorem fle_ints_set (l : List Int) (p : Nat) (v : Int) : fle 1 iEnc (l.set p v) = (fle 1 iEnc l).set p (.int .i64 v) := by
  rw [fle_ints, fle_ints, List.map_set]
theorem heap_new_at (w : World) (o : Obj) (n : Nat) (hn : n = w.heap.size) : (w.alloc o).heap[n]? = some o := by
  subst hn
  exact heap_new' w o
set_option maxHeartbeats 4000000 in
theorem meet_any (p : Int) (s : St) (base gb : Nat) (nv ov : Value) (w : World) (hG : Gr w base gb nv ov s) (hp : inF s.1.length p = true) (hz : s.2.length ≤ 1048576) (hbase : base ≤ w.heap.size) :
    Calls Try.prog 17 #[.pointer (some ⟨gb, 0, none⟩), .int .i64 p] w (MeetP w base gb nv ov (mt p s)) := by
  obtain ⟨h0, h1⟩ := inF_iff.1 hp
  obtain ⟨p, rfl⟩ : ∃ q : Nat, p = (q : Int) := ⟨p.toNat, by omega⟩
  have hpn : p < s.1.length := by omega
  have HG := Lib.hid hG
  have g0 : w.cell? ⟨gb, 0, none⟩ = some nv := by rw [cell_of_row w gb 0 _ _ _ hG.g]; rfl
  have g1 : w.cell? ⟨gb, 1, none⟩ = some ov := by rw [cell_of_row w gb 1 _ _ _ hG.g]; rfl
  have hgb := lt_of_block hG.g
  have hsl := sl_of_ow hG.n
  obtain ⟨nb, cn, hnv, -⟩ := hG.n.form (by omega)
  obtain ⟨ao, co, rfl⟩ := hG.o.slice
  subst hnv
  obtain ⟨an, cn2, e, mn, HNN⟩ := sl_open hsl
  injection e with e1 e2 e3
  subst e1; subst e3
  obtain ⟨b2, o2, e, hnb, hc⟩ := HNN.out (by omega)
  injection e with e
  injection e with e1 e2 _
  subst e1; subst e2
  have n0 := hc p hpn 0 (by omega)
  simp only [iEnc, Nat.mul_one, Nat.add_zero, Nat.zero_add] at n0
  have hmt : Hid (mt (p : Int) s = if s.1.getD p default < 0 then (s.1.set p s.2.length, s.2 ++ [(p : Int)]) else s) := rfl
  clear hG hsl hc HNN
  generalize s.1.getD p default = y at *
  by_cases hy : y < 0
  · rw [if_pos hy] at hmt
    rw [hmt.out]
    go_enter Try.func17, Try.ntmps17
    have z0 : w.frozen? ⟨nb, p, none⟩ = false := HG.out.n.frozenAt p
    have hnb : nb ≠ gb := fun e => ow_ne HG.out.n HG.out.g (by rw [← e]; rfl)
    go_wp2_with fail
    go_region
    all_goals
      have HO1 : Hid (Ow (w.drew.setCell ⟨nb, p, none⟩ (.int .i64 (s.2.length : Int))) base 3 1 iEnc (.slice ao s.2.length co) s.2) := ownsRow_setCell_other (show World.ownsRow w.drew _ _ _ _ _ _ from HG.out.o) (a := ⟨nb, p, none⟩) (fun e => HG.out.d nb rfl e) _
      have HN1 : Hid (Ow (w.drew.setCell ⟨nb, p, none⟩ (.int .i64 (s.2.length : Int))) base 3 1 iEnc (.slice (some ⟨nb, 0, none⟩) s.1.length cn) (s.1.set p s.2.length)) := by
        have h := ((show World.ownsRow w.drew _ _ _ _ _ _ from HG.out.n).stored p (.int .i64 (s.2.length : Int))).1
        have e : fle 1 iEnc (s.1.set p s.2.length) = (fle 1 iEnc s.1).set p (.int .i64 (s.2.length : Int)) := fle_ints_set _ _ _
        unfold Hid Ow
        rw [e, List.length_set]
        exact h
      go_wp2_with (at_builtin; go_must (refine wpList_push elt27 rfl _ _ rfl base iEnc (.slice ao s.2.length co) s.2 rfl (HO1.out.alloc _) w.heap.size (p : Int) _ rfl (heap_new_at _ _ _ (by simp)) rfl (by intro u hu; simp at hu; rw [hu]; rfl) (by omega) (by simp; omega) ?c4))
      case c4 =>
        intro g cap w5 h1 h2 h3
        have hgo : (Value.slice ao s.2.length co).ownBlock ≠ some gb := ow_ne HG.out.o HG.out.g
        have hg5 : w5.heap[gb]? = some (.cells #[.slice (some ⟨nb, 0, none⟩) s.1.length cn, .slice ao s.2.length co] 51 (0, 0)) := by
          refine (h2.block gb (by simp; omega) (fun e => hgo e.symm)).trans ((Below.heap_alloc _ _ _ (by simpa using hgb)).trans ?_)
          exact (Below.heap_setCell _ _ _ _ (fun e => hnb e.symm)).trans HG.out.g
        have f1 : w5.cell? ⟨gb, 1, none⟩ = some (.slice ao s.2.length co) := by rw [cell_of_row w5 gb 1 _ _ _ hg5]; rfl
        have f2 : w5.frozen? ⟨gb, 1, none⟩ = false := frozen_of_row w5 gb 1 _ _ hg5
        have hgg : g ≠ gb := fun e => by
          subst e
          rcases h3 with h | h
          · exact hgo h
          · first | omega | (simp at h; omega)
        have HGR : Hid (MeetP w base gb (.slice (some ⟨nb, 0, none⟩) s.1.length cn) (.slice ao s.2.length co) (s.1.set p s.2.length, s.2 ++ [(p : Int)]) (.returned (.tuple #[])) (w5.setCell ⟨gb, 1, none⟩ (.slice (some ⟨g, 0, none⟩) (s.2.length + 1) cap))) := by
          refine ⟨rfl, .slice (some ⟨g, 0, none⟩) (s.2.length + 1) cap, ⟨?_, ?_, ?_, ?_⟩, ?_, ?_⟩
          · rw [heap_setCell_same w5 gb 1 _ 51 _ hg5]; rfl
          · exact ownsRow_setCell_other ((HN1.out.alloc _).kept h2 (.inr (fun e => HG.out.d nb rfl e.symm))) (a := ⟨gb, 1, none⟩) (by simpa [Value.ownBlock] using hnb) _
          · exact ownsRow_setCell_other h1 (a := ⟨gb, 1, none⟩) (by simpa [Value.ownBlock] using hgg) _
          · intro k hk e
            have e1 : nb = k := by simpa [Value.ownBlock] using hk
            have e2 : g = k := by simpa [Value.ownBlock] using e
            subst e1; subst e2
            rcases h3 with h | h
            · exact HG.out.d _ rfl h
            · have := (HG.out.n.lt g rfl).2
              first | omega | (simp at h; omega)
          · exact (((((OutsP.refl (fun k => k = gb ∨ (Value.slice (some ⟨nb, 0, none⟩) s.1.length cn).ownBlock = some k ∨ (Value.slice ao s.2.length co).ownBlock = some k) w).drew.setCell (p := ⟨nb, p, none⟩) (.inl (.inr (.inl rfl))) _).alloc _).grown h2 (fun k hk => .inl (.inr (.inr hk)))).setCell (p := ⟨gb, 1, none⟩) (.inl (.inl rfl)) _)
          · intro k hk
            have e2 : g = k := by simpa [Value.ownBlock] using hk
            subst e2
            rcases h3 with h | h
            · exact .inl h
            · exact .inr (by first | omega | (simp at h; omega))
        clear h1 h2 h3
        go_wp2
        go_end0
        exact HGR.out
  · rw [if_neg hy] at hmt
    rw [hmt.out]
    go_enter Try.func17, Try.ntmps17
    go_wp2
    go_end0
    exact ⟨rfl, _, HG.out, OutsP.refl _ _, fun k h => .inl h⟩
end Go.Proofs.Ytioacgjggogflab

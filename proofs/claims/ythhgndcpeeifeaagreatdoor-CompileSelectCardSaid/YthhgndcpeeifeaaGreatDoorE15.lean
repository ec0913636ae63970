/- Part of the proof of CompileForCardSaid. -/
import Derived.Test.YthhgndcpeeifeaaGreatDoorE14
import Derived.Shelf.Strconv.Clone
import Derived.Shelf.Strconv.Itoa4
set_option linter.unusedVariables false
set_option linter.unusedSimpArgs false
set_option linter.unusedSectionVars false
set_option linter.constructorNameAsVariable false
namespace Go.Ev
open Go Go.RowKit Go.Shelf Go.Proofs
variable {r : DV}
noncomputable def x1 (l : List AV) (k : AV → Res) : Res := List.rec (motive := fun _ => Res) (bad 126) (fun a r _ => List.rec (motive := fun _ => Res) (k a) (fun _ _ _ => bad 126) r) l
noncomputable def x2 (l : List AV) (k : AV → AV → Res) : Res := List.rec (motive := fun _ => Res) (bad 126) (fun a r _ => x1 r fun b => k a b) l
theorem x1_ok {l : List AV} {k : AV → Res} (h : x1 l k = .ok r) : ∃ a, l = [a] ∧ k a = .ok r := by
  match l, h with
  | [], h => exact bad_ok h
  | [a], h => exact ⟨a, rfl, h⟩
  | _ :: _ :: _, h => exact bad_ok h
theorem x2_ok {l : List AV} {k : AV → AV → Res} (h : x2 l k = .ok r) : ∃ a b, l = [a, b] ∧ k a b = .ok r := by
  match l, h with
  | [], h => exact bad_ok h
  | a :: l, h =>
    obtain ⟨b, rfl, h⟩ := x1_ok (show x1 l (fun b => k a b) = .ok r from h)
    exact ⟨a, b, rfl, h⟩
section
variable {P : Program} {base : Nat}
theorem rl1 {ρ : Rn} {a : AV} {args : Array Value} (h : RL P ρ [a] args.toList) : ∃ v, args = #[v] ∧ RV P ρ a v := by
  simp only [RL] at h
  obtain ⟨v, y, e, rv, rfl⟩ := h
  exact ⟨v, by rw [← Array.toArray_toList (xs := args), e], rv⟩
theorem rl2 {ρ : Rn} {a b : AV} {args : Array Value} (h : RL P ρ [a, b] args.toList) : ∃ v u, args = #[v, u] ∧ RV P ρ a v ∧ RV P ρ b u := by
  simp only [RL] at h
  obtain ⟨v, y, e, rv, u, z, rfl, ru, rfl⟩ := h
  exact ⟨v, u, by rw [← Array.toArray_toList (xs := args), e], rv, ru⟩
/-- A cell of one's own is set. -/
theorem Stp.cell1 {ρ : Rn} {h : Hp} {w : World} (s : Sim P base ρ h w) {b : Id} {a : Nat} {e : TypeId} {m : Nat} {t : CT} (hb : ρ.blk b = some a) (ho : hat b h.t = .c true e m t) {j : Nat} (hj : j < m) {x : AV} {v : Value} (rv : RV P ρ x v) :
    Stp P base ρ h w ρ ⟨hput b (.c true e m (t.set j x)) h.t, h.nx⟩ (w.setCell ⟨a, j, none⟩ v) := by
  obtain ⟨k1, k2, k3, cs, lo, hi, hw, k5, k6, k7, k8⟩ := s.cells hb ho
  have z := s.zero hb ho
  obtain ⟨hba, hf⟩ := k8 rfl
  refine Stp.put s hb (.inl ⟨_, _, _, ho⟩) hba (by simp) (fun k hk => Below.heap_setCell _ _ _ _ hk) ⟨k1, k2, by rw [CT.room_set]; exact k3, cs.setIfInBounds j v, lo, hi, by simp [World.setCell, Array.getElem?_modify, hw], by rw [z, Nat.zero_add]; simpa using k5, by rw [z, Nat.zero_add]; simpa using k6, fun i hi' => ?_, fun _ => ⟨hba, fun i hi' => hf i (by simpa using hi')⟩⟩ (by intro q; cases q) rfl rfl rfl
  rw [z, Nat.zero_add, CT.get_set x t (by omega) (by omega)]
  by_cases q : i = j
  · subst q
    rw [if_pos rfl]
    exact ⟨v, by simp [show i < cs.size by omega], rv⟩
  · rw [if_neg q, Array.getElem?_setIfInBounds_ne (Ne.symm q)]
    exact k7 i hi'
/-- A cell is told otherwise. -/
theorem Stp.cell0 {ρ : Rn} {h : Hp} {w : World} (s : Sim P base ρ h w) {b : Id} {a : Nat} {e : TypeId} {m : Nat} {t : CT} (hb : ρ.blk b = some a) (ho : hat b h.t = .c true e m t) {j : Nat} (hj : j < m) {x : AV} {v : Value} (hv : w.cell? ⟨a, j, none⟩ = some v) (rv : RV P ρ x v) :
    Stp P base ρ h w ρ ⟨hput b (.c true e m (t.set j x)) h.t, h.nx⟩ w := by
  obtain ⟨k1, k2, k3, cs, lo, hi, hw, k5, k6, k7, k8⟩ := s.cells hb ho
  have z := s.zero hb ho
  obtain ⟨hba, hf⟩ := k8 rfl
  refine Stp.put s hb (.inl ⟨_, _, _, ho⟩) hba rfl (fun k hk => rfl) ⟨k1, k2, by rw [CT.room_set]; exact k3, cs, lo, hi, ⟨_, hw, fun _ => rfl⟩, by rw [z, Nat.zero_add]; exact k5, by rw [z, Nat.zero_add]; exact k6, fun i hi' => ?_, fun _ => ⟨hba, hf⟩⟩ (by intro q; cases q) rfl rfl rfl
  rw [z, Nat.zero_add, CT.get_set x t (by omega) (by omega)]
  by_cases q : i = j
  · subst q
    rw [if_pos rfl]
    rw [cell_of hw] at hv
    exact ⟨v, hv, rv⟩
  · rw [if_neg q]
    exact k7 i hi'
noncomputable def selfE (v : AV) (b : Id) (o : Nat) (z : Res) : Res :=
  AV.rec (motive_1 := fun _ => Res) (motive_2 := fun _ => Unit) (bad 135) (fun _ => bad 135) (fun _ _ => bad 135) (fun _ _ => bad 135) (fun b' o' => cif (an (deqI b' b) (Nat.beq o' o)) z (bad 135)) z (fun _ _ _ => bad 135) (bad 135) (fun _ => bad 135) (bad 135) (fun _ _ _ _ _ => bad 135) (bad 135) (fun _ _ _ => bad 135) (bad 135) (fun _ _ => bad 135) (fun _ _ => bad 135)
    (fun _ => bad 135) (fun _ => bad 135) () (fun _ _ _ _ => ()) v
theorem selfE_ok {v : AV} {b : Id} {o : Nat} {z : Res} (h : selfE v b o z = .ok r) : (v = .p0 ∨ v = .p b o) ∧ z = .ok r := by
  cases v with
  | p0 => exact ⟨.inl rfl, h⟩
  | p b' o' =>
    have h' : cif (an (deqI b' b) (Nat.beq o' o)) z (bad 135) = .ok r := h
    rw [cif_eq] at h'
    obtain ⟨h1, h2⟩ := ite_bad h'
    simp only [an_eq, Bool.and_eq_true, Nat.beq_eq] at h1
    obtain ⟨g1, rfl⟩ := h1
    rw [deqI_eq g1]
    exact ⟨.inr rfl, h2⟩
  | _ => exact bad_ok h
theorem buf_det {ρ ρ' : Rn} {eb : TypeId} {x : AV} {n c : Nat} {h : Hp} {fin : AV → Hp → Res} (hx : appBuf eb x n c h fin = .ok r) {v v' : Value} (rv : RV P ρ x v) (le : ρ.le ρ') (rv' : RV P ρ' x v') : v' = v := by
  unfold appBuf at hx
  rcases bufE_ok hx with ⟨rfl, hx⟩ | ⟨j, rfl, hx⟩
  · simp only [RV] at rv rv'
    rw [rv, rv']
  · simp only [RV] at rv rv'
    obtain ⟨a, ha, rfl⟩ := rv
    obtain ⟨a', ha', rfl⟩ := rv'
    obtain ⟨g1, g2, g3, g4⟩ := le.h j a ha
    rw [g1] at ha'
    cases ha'
    rw [g2, g3]
variable (P) in
/-- (*strings.Builder).WriteString: E, the struct's type, O, the Builder's place in it. -/
noncomputable def rWrite (E O : Nat) (eb : TypeId) (_ : Cl) (a : List AV) (h : Hp) (k : K) : Res :=
  x2 a fun p x => asP p fun b o => asR x fun n c => cellsAt b h fun own e m t =>
    cif (an own (an (Nat.beq o O) (an (Nat.beq e E) (an (Nat.ble (Nat.add o 2) m) (Nat.ble (szOf P E) m))))) (selfE (t.get o) b o
      (appBuf eb (t.get (Nat.succ o)) n c ⟨hput b (.c true e m (t.set o (.p b o))) h.t, h.nx⟩ fun x h => k (.t [.u, .if0]) ⟨hput b (.c true e m ((t.set o (.p b o)).set (Nat.succ o) x)) h.t, h.nx⟩)) (bad 129)
theorem rWrite_ok {σ : Ren} (L : Lays.n166 P σ) (X : Builder.Extra P σ) {E O : Nat} (hE : P.cellsOf E ≠ 0) (hl : rowAt P (sameLayout P P.depth · (σ.t 72)) P.depth E 1 O 1 = true) : RuleOk P base (σ.f 166) (rWrite P E O (σ.t 5)) := by
  intro cl _ r args args' h k ρ w rl s hx
  obtain ⟨p, x, rfl, hx⟩ := x2_ok (show x2 args _ = .ok r from hx)
  obtain ⟨v1, v2, rfl, rv1, rv2⟩ := rl2 rl
  obtain ⟨b, o, rfl, hx⟩ := asP_ok hx
  obtain ⟨A, B, M, hA, hB, eAB⟩ := s.kn
  obtain ⟨n, c, str, rfl, hstr, hx⟩ := asR_ok s eAB rv2 hx
  obtain ⟨own, e, m, t, hbt, hx1⟩ := cellsAt_ok hx
  rw [cif_eq] at hx1
  obtain ⟨hc, hx2⟩ := ite_bad hx1
  clear hx hx1
  simp only [an_eq, Bool.and_eq_true, Nat.beq_eq, Nat.ble_eq] at hc
  obtain ⟨rfl, rfl, rfl, hom, hsz⟩ := hc
  have hom : o + 2 ≤ m := hom
  have hsz : P.cellsOf e ≤ m := hsz
  obtain ⟨hself, hx⟩ := selfE_ok hx2
  simp only [RV] at rv1
  obtain ⟨a, hb, hv1⟩ := rv1
  have z := s.zero hb hbt
  rw [z, Nat.zero_add] at hv1
  subst hv1
  obtain ⟨k1, k2, k3, cs, lo, hi, hw, k5, k6, k7, k8⟩ := s.cells hb hbt
  obtain ⟨hba, hf⟩ := k8 rfl
  obtain ⟨i0, hi0, hz0, hz1, hz2⟩ := info_parts X.infoByte
  have hdep : ∃ d, P.depth = d + 1 := by
    have := X.liesBuilder
    cases hd : P.depth with
    | zero => rw [hd] at this; cases this
    | succ d => exact ⟨d, rfl⟩
  have hself' : RV P ρ (.p b o) (.pointer (some ⟨a, o, none⟩)) := by simp only [RV]; exact ⟨a, hb, by rw [z, Nat.zero_add]⟩
  have step1 : ∃ w1, Calls P (σ.f 240) #[.pointer (some ⟨a, o, none⟩)] w (fun e w' => e = .returned (.tuple #[]) ∧ w' = w1) ∧ Stp P base ρ h w ρ ⟨hput b (.c true e m (t.set o (.p b o))) h.t, h.nx⟩ w1 := by
    obtain ⟨v, g1, g2⟩ := k7 o (by omega)
    rcases hself with q | q
    · rw [q] at g2
      simp only [RV] at g2
      subst g2
      refine ⟨_, copyCheck_fresh { L with } X.toX72 a o w (by rw [cell_of hw]; exact g1) (E := e) (cells := cs.size) (by simp [World.shape?, hw]) (by omega) ?_ ?_, Stp.cell1 s hb hbt (by omega) hself'⟩
      · obtain ⟨d, hd⟩ := hdep
        have := liesAt_mono (d := d) hl (c := cs.size / P.cellsOf e) (Nat.div_pos (by omega) (Nat.pos_of_ne_zero hE))
        rw [← hd] at this
        exact this
      · have := hf o (by omega)
        simp only [World.frozen?, hw, Bool.and_eq_false_iff, decide_eq_false_iff_not]
        omega
    · rw [q] at g2
      simp only [RV] at g2
      obtain ⟨a', ha', hv'⟩ := g2
      rw [hb] at ha'
      cases ha'
      rw [z, Nat.zero_add] at hv'
      subst hv'
      have hc : w.cell? ⟨a, o, none⟩ = some (.pointer (some ⟨a, o, none⟩)) := by rw [cell_of hw]; exact g1
      exact ⟨w, copyCheck_used { L with } X.toX72 a o w hc, Stp.cell0 s hb hbt (by omega) hc hself'⟩
  obtain ⟨w1, hcc, st1⟩ := step1
  have hat1 : hat b (Hp.mk (hput b (.c true e m (t.set o (.p b o))) h.t) h.nx).t = .c true e m (t.set o (.p b o)) := hat_hput_self ..
  have hget : (t.set o (.p b o)).get (o + 1) = t.get (o + 1) := by rw [CT.get_set _ _ (by omega) (by omega), if_neg (by omega)]
  obtain ⟨v, c1, rv⟩ := st1.sim.cell hb hat1 (j := o + 1) (by omega)
  rw [hget] at rv
  rw [z, Nat.zero_add] at c1
  have hx0 := hx
  obtain ⟨v', w2, ρ2, x', h2, hap, st2, rv', hfin, hkeep, hv, hv'⟩ := appBuf_ok L.t37 L.t9 hi0 hz0 hz1 hz2 st1.sim eAB hA hB hstr rv hx
  have hat2 : hat b h2.t = .c true e m (t.set o (.p b o)) := hkeep b e m _ hat1 (by rw [hb]; simp)
  have hb2 : ρ2.blk b = some a := (st2.le.h b a hb).1
  obtain ⟨v3, c2, rv3⟩ := st2.sim.cell hb2 hat2 (j := o + 1) (by omega)
  rw [hget] at rv3
  rw [st2.sim.zero hb2 hat2, Nat.zero_add] at c2
  have hv3 := buf_det hx0 rv st2.le rv3
  subst hv3
  obtain ⟨_, _, _, cs2, lo2, hi2, hw2, _, j6, _, j8⟩ := st2.sim.cells hb2 hat2
  have f2 : w2.frozen? ⟨a, o + 1, none⟩ = false := by
    have := (j8 rfl).2 (o + 1) (by omega)
    simp only [World.frozen?, hw2, Bool.and_eq_false_iff, decide_eq_false_iff_not]
    omega
  have st3 := Stp.cell1 st2.sim hb2 hat2 (j := o + 1) (by omega) rv'
  refine .inr ⟨enters_of L.f166 (by kernel_rfl) rfl _ _, (writeString_at L X a o w w1 w2 str v3 v' hcc c1 hap c2 f2 hv hv').mono ?_⟩
  rintro e' w' ⟨rfl, rfl⟩
  exact ⟨_, ρ2, .t [.u, .if0], _, rfl, (st1.trans st2).trans st3, by simp only [RV, RL]; exact ⟨_, rfl, _, _, rfl, trivial, _, _, rfl, rfl, rfl⟩, hfin⟩
/-- A row is no more spoken of, and turns. -/
theorem Stp.dead {ρ : Rn} {h : Hp} {w w' : World} (s : Sim P base ρ h w) {b : Id} {a : Nat} (hb : ρ.blk b = some a) (hl : Own h b) (hba : base ≤ a) (hsz : w'.heap.size = w.heap.size) (hw : ∀ k, k ≠ a → w'.heap[k]? = w.heap[k]?) (hos : w'.os = w.os) (htp : w'.tape = w.tape) (hout : w'.output = w.output) :
    Stp P base ρ h w ρ ⟨hput b .no h.t, h.nx⟩ w' := by
  refine ⟨.refl ρ, ⟨by rw [hsz]; exact s.bs, by rw [hsz]; exact s.lt, fun c a' hc => ?_, fun c d a' hc hd lc ld => s.inj c d a' hc hd (hl.put lc) (hl.live.put ld), s.nx, s.gl, s.kn, fun i hi => (hw i (by omega)).trans (s.tb i hi), s.ct, fun c a' hc ho => s.oz c a' hc (ho.imp hl.put id)⟩,
    ⟨hos, htp, hout, by omega, fun k hk => hw k (by omega)⟩, Nat.le_refl _, fun k _ hk => hw k fun e => hk b (e ▸ hb) hl, fun n _ _ hc _ => ?_, fun _ _ _ k => k, fun c a' hc lc => .inr ⟨c, hc, hl.put lc⟩, fun c a' hc lc => .inr ⟨c, hc, hl.live.put lc⟩⟩
  · by_cases e : b = c
    · subst e; rw [hb] at hc; cases hc
      show Holds P base ρ b a w' (hat b (hput b .no h.t))
      rw [hat_hput_self]; trivial
    · show Holds P base ρ c a' w' (hat c (hput b .no h.t))
      rw [hat_hput_ne _ _ e]
      by_cases hne : hat c h.t = .no
      · rw [hne]; trivial
      · exact (s.ob c a' hc).world (hw a' fun e2 => e (s.inj b c a hb (e2 ▸ hc) hl hne))
  · show hat (idOf n) (hput b .no h.t) = _
    rw [hat_hput_ne _ _ fun e => by rw [← e, hb] at hc; cases hc]
/-- (*strings.Builder).String: the bytes are frozen: the row is spoken of no more. -/
noncomputable def rString (eb : TypeId) (_ : Cl) (a : List AV) (h : Hp) (k : K) : Res :=
  x1 a fun p => asP p fun b o => cellsAt b h fun own e m t => cif (Nat.ble (Nat.add o 2) m) (bufE (t.get (Nat.succ o)) (k (.s 0 0) h)
    (fun j => bsE (hat j h.t) fun e2 y0 => cif (an (Nat.beq e2 eb) (an (yOdd y0) (nt (Nat.beq (yLen y0) 0)))) (k (.y y0) ⟨hput j .no h.t, h.nx⟩) (bad 132))) (bad 133)
theorem rString_ok {σ : Ren} (L : Lays.n169 P σ) (X : Builder.Extra P σ) : RuleOk P base (σ.f 169) (rString (σ.t 5)) := by
  intro cl _ r args args' h k ρ w rl s hx
  obtain ⟨p, rfl, hx⟩ := x1_ok (show x1 args _ = .ok r from hx)
  obtain ⟨v1, rfl, rv1⟩ := rl1 rl
  obtain ⟨b, o, rfl, hx⟩ := asP_ok hx
  obtain ⟨A, B, M, hA, hB, eAB⟩ := s.kn
  obtain ⟨own, e, m, t, hbt, hx1⟩ := cellsAt_ok hx
  rw [cif_eq] at hx1
  obtain ⟨hc, hx2⟩ := ite_bad hx1
  clear hx hx1
  have hom : o + 2 ≤ m := Nat.le_of_ble_eq_true hc
  simp only [RV] at rv1
  obtain ⟨a, hb, rfl⟩ := rv1
  obtain ⟨v, c1, rv⟩ := s.cell hb hbt (j := o + 1) (by omega)
  rw [← Nat.add_assoc] at c1
  have en := enters_of L.f169 (by kernel_rfl) rfl #[.pointer (some ⟨a, ρ.off b + o, none⟩)] w
  rcases bufE_ok hx2 with ⟨q, hx3⟩ | ⟨j, q, hx3⟩
  · rw [show t.get (o + 1) = .sl0 from q] at rv
    simp only [RV] at rv
    subst rv
    refine .inr ⟨en, (string_at L X a (ρ.off b + o) w w.drew none 0 0 none .empty c1 rfl (Any.unsafeString_none L X w.drew none)).mono ?_⟩
    rintro e' w' ⟨rfl, rfl⟩
    exact ⟨_, ρ, .s 0 0, h, rfl, Stp.draw s, by simp only [RV]; exact ⟨_, rfl, rfl, rfl⟩, hx3⟩
  · rw [show t.get (o + 1) = .sw j from q] at rv
    simp only [RV] at rv
    obtain ⟨g, hg, rfl⟩ := rv
    obtain ⟨e2, y0, hj, hx4⟩ := bsE_ok hx3
    rw [cif_eq] at hx4
    obtain ⟨h1, hx5⟩ := ite_bad hx4
    clear hx2 hx3 hx4
    simp only [an_eq, Bool.and_eq_true, Nat.beq_eq, nt_eq, Bool.not_eq_true'] at h1
    obtain ⟨rfl, hodd, hne0⟩ := h1
    have hne : yLen y0 ≠ 0 := by intro q; rw [q] at hne0; cases hne0
    have hh := s.ob j g hg
    rw [hj] at hh
    obtain ⟨k1, k2, cs, lo, hi', s0, k3, k4, k5, k6, k7, k8, k9⟩ := hh
    have ho2 : y0 % 2 = 1 := by
      have : Nat.mod y0 2 = 1 := by simpa [yOdd] using hodd
      exact this
    have hs0 : s0.data.toList = rope A B (yLen y0) (yCod y0) := by
      rw [eAB, den, if_pos ho2] at k5
      cases k5; rfl
    have hl0 : s0.data.toList ≠ [] := by rw [hs0]; exact rope_pos A B _ _ hne
    have hlen : s0.data.toList.length = ρ.ext j := by rw [k6]; simp
    have hle : s0.data.toList.length ≤ 10 * 65535 := by
      rw [hs0]
      have := rope_le hA hB (yLen y0) (yCod y0)
      have h2 : yLen y0 < 65536 := Nat.mod_lt _ (by omega)
      omega
    have hpos : 0 < s0.data.toList.length := List.length_pos_iff.2 hl0
    have hSD := Lib.run_unsafeSliceData_row (P := P) (w := w.drew) #[σ.t 37] (σ.t 127) ⟨g, 0, none⟩ (ρ.ext j) (ρ.csz j) (by omega)
    have hw3 : w.drew.heap[g]? = some (.cells cs (σ.t 5) (lo, hi')) := k3
    have hUS := Lib.run_unsafeString_row w.drew (σ.t 127) (σ.t 3) (σ.t 9) (σ.t 5) L.t127 X.cellsByte g cs.size (by simp [World.shape?, hw3]) s0.data.toList hl0 (by omega) (by omega) (by
      intro j' x hx
      have hj' : j' < s0.data.size := by have := (List.getElem?_eq_some_iff.1 hx).1; simpa using this
      rw [add_eq, cell_of hw3, Nat.zero_add, k8 j' hj']
      rw [List.getElem?_eq_getElem (by simpa using hj')] at hx
      cases hx
      simp)
    rw [hlen] at hUS
    refine .inr ⟨en, (string_at L X a (ρ.off b + o) w _ _ _ _ _ _ c1 hSD hUS).mono ?_⟩
    rintro e' w' ⟨rfl, rfl⟩
    have hn0 : ρ.ext j ≠ 0 := by omega
    have st := Stp.dead (Stp.draw s).sim hg (.inr (.inr ⟨_, _, hj⟩)) k2 (w' := w.drew.freeze ⟨g, 0, none⟩ (ρ.ext j)) (by simp [World.freeze, hn0]) (fun k hk => by simp [World.freeze, hn0, Array.getElem?_modify, Ne.symm hk]) (by simp [World.freeze, hn0]) (by simp [World.freeze, hn0]) (by simp [World.freeze, hn0])
    refine ⟨_, ρ, .y y0, _, rfl, (Stp.draw s).trans st, ?_, hx5⟩
    simp only [RV]
    refine ⟨?_, trivial⟩
    rw [k5]
end
end Go.Ev
namespace Go.Ev
open Go Go.RowKit Go.Shelf Go.Proofs
variable {r : DV}
/-- A text, known or not. -/
noncomputable def txtE (v : AV) (z : Res) : Res :=
  AV.rec (motive_1 := fun _ => Res) (motive_2 := fun _ => Unit) (bad 136) (fun _ => bad 136) (fun _ _ => bad 136) (fun n _ => cif (Nat.ble n 281474976710656) z (bad 136)) (fun _ _ => bad 136) (bad 136) (fun _ _ _ => bad 136) (bad 136) (fun _ => bad 136) (bad 136) (fun _ _ _ _ _ => bad 136) (bad 136) (fun _ _ _ => bad 136) (bad 136) (fun _ _ => bad 136) (fun _ _ => bad 136)
    (fun y => cif (yOdd y) z (bad 136)) (fun _ => bad 136) () (fun _ _ _ _ => ()) v
noncomputable def yE (v : AV) (s : Nat → Res) (z : Res) : Res :=
  AV.rec (motive_1 := fun _ => Res) (motive_2 := fun _ => Unit) z (fun _ => z) (fun _ _ => z) (fun _ _ => z) (fun _ _ => z) z (fun _ _ _ => z) z (fun _ => z) z (fun _ _ _ _ _ => z) z (fun _ _ _ => z) z (fun _ _ => z) (fun _ _ => z) (fun y => s y) (fun _ => z) () (fun _ _ _ _ => ()) v
theorem yE_ok {v : AV} {s : Nat → Res} {z : Res} (h : yE v s z = .ok r) : (∃ y, v = .y y ∧ s y = .ok r) ∨ z = .ok r := by
  cases v <;> first | exact .inl ⟨_, rfl, h⟩ | exact .inr h
section
variable {P : Program} {base : Nat}
theorem txtE_ok {ρ : Rn} {h : Hp} {w : World} (s : Sim P base ρ h w) {x : AV} {v : Value} (rv : RV P ρ x v) {z : Res} (hx : txtE x z = .ok r) : ∃ str : ByteArray, v = .string str ∧ str.size ≤ 281474976710656 ∧ z = .ok r := by
  obtain ⟨A, B, M, hA, hB, e⟩ := s.kn
  cases x with
  | s n c =>
    have hx' : cif (Nat.ble n 281474976710656) z (bad 136) = .ok r := hx
    rw [cif_eq] at hx'
    obtain ⟨h1, h2⟩ := ite_bad hx'
    simp only [RV] at rv
    obtain ⟨str, rfl, hl, _⟩ := rv
    refine ⟨str, rfl, ?_, h2⟩
    have : str.size = n := by rw [← hl]; simp
    rw [this]; exact Nat.le_of_ble_eq_true h1
  | y y =>
    have hx' : cif (yOdd y) z (bad 136) = .ok r := hx
    rw [cif_eq] at hx'
    obtain ⟨h1, h2⟩ := ite_bad hx'
    have g : y % 2 = 1 := by
      have : Nat.mod y 2 = 1 := by simpa [yOdd] using h1
      exact this
    simp only [RV] at rv
    refine ⟨⟨(rope A B (yLen y) (yCod y)).toArray⟩, ?_, ?_, h2⟩
    · rw [rv.1, e, den, if_pos g]; rfl
    · have := rope_le hA hB (yLen y) (yCod y)
      have h2 : yLen y < 65536 := Nat.mod_lt _ (by omega)
      show (rope A B (yLen y) (yCod y)).toArray.size ≤ _
      rw [List.size_toArray]; omega
  | _ => exact bad_ok hx
/-- internal/stringslite.Clone. -/
noncomputable def rClone (_ : Cl) (a : List AV) (h : Hp) (k : K) : Res := x1 a fun x => txtE x (k x h)
theorem rClone_ok {σ : Ren} (L : LaysM.n316 P σ) : RuleOk P base (σ.f 316) rClone := by
  intro cl _ r args args' h k ρ w rl s hx
  obtain ⟨x, rfl, hx⟩ := x1_ok (show x1 args _ = .ok r from hx)
  obtain ⟨v1, rfl, rv1⟩ := rl1 rl
  obtain ⟨str, rfl, hsz, hx⟩ := txtE_ok s rv1 hx
  refine .inr ⟨enters_of L.f316 (by kernel_rfl) rfl _ _, (Any.stringslite_Clone L str w hsz).mono ?_⟩
  rintro e w' ⟨rfl, hb⟩
  exact ⟨_, ρ, x, h, rfl, Stp.apart s hb, rv1, hx⟩
/-! tables -/
noncomputable def tabEq (zs : List Nat) : List AV → Bool :=
  List.rec (motive := fun _ => List AV → Bool) (fun l => List.rec (motive := fun _ => Bool) true (fun _ _ _ => false) l) (fun z _ ih l => List.rec (motive := fun _ => Bool) false (fun a r _ => an (same a (.i .u64 (.ofNat z))) (ih r)) l) zs
theorem tabEq_ok : ∀ {zs : List Nat} {l : List AV}, tabEq zs l = true → l = zs.map fun z => .i .u64 (.ofNat z)
  | [], [], _ => rfl
  | [], _ :: _, h => absurd (show (false : Bool) = true from h) Bool.false_ne_true
  | _ :: _, [], h => absurd (show (false : Bool) = true from h) Bool.false_ne_true
  | z :: zs, a :: l, h => by
    have h' : an (same a (.i .u64 (.ofNat z))) (tabEq zs l) = true := h
    simp only [an_eq, Bool.and_eq_true] at h'
    rw [same_eq _ _ h'.1, tabEq_ok h'.2]; rfl
theorem tab_is {ρ : Rn} {h : Hp} {w : World} (s : Sim P base ρ h w) {g : Nat} {name : String} (hg : g < P.globals.size) (hnm : P.globalNamed name = some g) {zs : List Nat} (hsz : P.cellsOf P.globals[g].type = zs.length) {own : Bool} {e : TypeId} {n : Nat} {t : CT}
    (hat' : hat (idOf g) h.t = .c own e n t) (ht : tabEq zs (t.cells n 0) = true) : Lib.TabIs P w name .u64 (zs.map fun z => ((z : Nat) : Int)) := by
  obtain ⟨k1, k2, k3, cs, lo, hi, ⟨_, k4, _⟩, k5, k6, k7, k8⟩ := s.cellsR (s.gl g hg) hat'
  obtain ⟨ct1, ct2⟩ := s.ct g hg
  simp only [ct2, Nat.zero_add] at k5 k6 k7
  have hl := tabEq_ok ht
  have hn : n = zs.length := by
    have := congrArg List.length hl
    rw [cells_eq] at this
    simpa using this
  rw [ct1, hsz] at k5
  have hcs : cs = (zs.map fun z => Value.int .u64 ((z : Nat) : Int)).toArray := by
    apply Array.ext
    · simp [k5]
    · intro j h1 h2
      obtain ⟨v, g1, g2⟩ := k7 j (by omega)
      have hj : j < zs.length := by omega
      have ha : t.get j = .i .u64 (.ofNat zs[j]) := by
        have h3 : (t.cells n 0)[j]? = some (t.get j) := by rw [cells_eq]; simp [show j < n by omega]
        rw [hl] at h3
        simp [hj] at h3
        exact h3.symm
      rw [ha] at g2
      simp only [RV] at g2
      rw [Array.getElem?_eq_getElem h1] at g1
      cases g1
      rw [g2]
      simp
  unfold Lib.TabIs World.var?
  rw [hnm]
  simp only [Option.bind_some, k4, hcs, List.map_map]
  rfl
theorem decN_dig' : ∀ f n, n < 10 ^ f → 1 ≤ f → decN f n = Lib.decDigits n
  | 0, _, _, h => by omega
  | f + 1, n, h, _ => by
    rw [Lib.decDigits, decN]
    by_cases q : n < 10
    · rw [if_pos q, dif_pos q]
    · rw [if_neg q, dif_neg q]
      have hf : 1 ≤ f := by
        rcases Nat.eq_zero_or_pos f with h0 | h0
        · subst h0; simp at h; omega
        · exact h0
      rw [decN_dig' f (n / 10) (by rw [Nat.pow_succ] at h; omega) hf]
theorem itoa_dec {n : Nat} (h : n < 2147483648) : Lib.itoa (n : Int) = dec n := by
  have h0 : ¬ ((n : Int) < 0) := by omega
  rw [Lib.itoa, if_neg h0, dec, decN_dig' 10 n (by omega) (by omega)]
  simp
def pow10N : List Nat := (List.range 20).map fun i => 10 ^ i
variable (P) in
/-- strconv.FormatInt of an unknown number. -/
noncomputable def rFormat (gi : Id) (zs : List Nat) (idle : FuncId → Nat → Bool) (f : FuncId) (cl : Cl) (a : List AV) (h : Hp) (k : K) : Res :=
  x2 a fun x b => yE x (fun y => cif (an (Nat.ble y 2) (an (nt (yOdd y)) (same b (.i .i64 (.ofNat 10))))) (cellsAt gi h fun _ _ n t => cif (tabEq zs (t.cells n 0)) (natF (ropeY 1 (Nat.succ (Nat.div y 2))) fun y => k (.y y) h) (bad 128)) (bad 128))
    (callA P (fun _ => none) idle cl f a h k)
theorem rFormat_ok {σ : Ren} (L : LaysM.n173 P σ) (hn : Named P) {idle : FuncId → Nat → Bool} (hi : IdleOk P idle) {g : Nat} (hg : g < P.globals.size) (hnm : P.globalNamed "internal/strconv.uint64pow10" = some g) {zs : List Nat} (hzs : (zs.map fun z => ((z : Nat) : Int)) = Lib.pow10Tab)
    (hsz : P.cellsOf P.globals[g].type = zs.length) : RuleOk P base (σ.f 173) (rFormat P (idOf g) zs idle (σ.f 173)) := by
  intro cl hcl r args args' h k ρ w rl s hx
  obtain ⟨x, b, rfl, hx1⟩ := x2_ok (show x2 args _ = .ok r from hx)
  clear hx
  rcases yE_ok hx1 with ⟨y, rfl, hx2⟩ | hx2
  · clear hx1
    obtain ⟨v1, v2, rfl, rv1, rv2⟩ := rl2 rl
    rw [cif_eq] at hx2
    obtain ⟨hc, hx3⟩ := ite_bad hx2
    clear hx2
    simp only [an_eq, Bool.and_eq_true, nt_eq, Bool.not_eq_true', Nat.ble_eq] at hc
    obtain ⟨hy2, hodd, h10⟩ := hc
    rw [same_eq _ _ h10] at rv2
    simp only [RV] at rv2
    subst rv2
    obtain ⟨own, e, n, t, hat', hx4⟩ := cellsAt_ok hx3
    rw [cif_eq] at hx4
    obtain ⟨htab, hx5⟩ := ite_bad hx4
    rw [natF_eq] at hx5
    have tab := tab_is s hg hnm hsz hat' htab
    rw [hzs] at tab
    obtain ⟨A, B, M, hA, hB, eAB⟩ := s.kn
    simp only [RV] at rv1
    obtain ⟨rv1, _⟩ := rv1
    have hy : y = 0 ∨ y = 2 := by
      have : y ≠ 1 := by intro q; subst q; cases hodd
      omega
    have key : ∀ N : Nat, N < 2147483648 → v1 = .int .i64 N → rope A B 1 (Nat.succ (Nat.div y 2)) = dec N → Does P (σ.f 173) #[v1, .int .i64 10] w fun e w' => ∃ v' ρ' v h', e = .returned v' ∧ Stp P base ρ h w ρ' h' w' ∧ RV P ρ' v v' ∧ k v h' = .ok r := by
      intro N hN hv hr
      subst hv
      refine .inr ⟨enters_of L.f173 (by kernel_rfl) rfl _ _, (Any.strconv_FormatInt_10 L (N : Int) (by omega) (by omega) w tab).mono ?_⟩
      rintro e' w' ⟨rfl, kk, os, rfl⟩
      refine ⟨_, ρ, _, h, rfl, Stp.apart s ⟨rfl, rfl, rfl, by show w.heap.size ≤ (w.heap ++ os).size; rw [Array.size_append]; omega, fun j hj => by show (w.heap ++ os)[j]? = _; rw [Array.getElem?_append_left hj]⟩, ?_, hx5⟩
      simp only [RV]
      refine ⟨?_, trivial⟩
      rw [eAB, den_rope A B (by omega), hr, itoa_dec hN]
    rcases hy with rfl | rfl
    · exact key A hA (by rw [rv1, eAB]; rfl) (by show rope A B 1 1 = _; simp [rope])
    · exact key B hB (by rw [rv1, eAB]; rfl) (by show rope A B 1 2 = _; simp [rope])
  · exact callA_ok hn hcl hi (by intro f r q; cases q) _ _ _ _ _ _ _ rl s hx2
end
end Go.Ev

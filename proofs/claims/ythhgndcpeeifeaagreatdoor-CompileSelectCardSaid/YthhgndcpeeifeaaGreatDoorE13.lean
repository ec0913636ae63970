/- Part of the proof of CompileForCardSaid. -/
import Derived.Test.YthhgndcpeeifeaaGreatDoorE12
set_option linter.unusedVariables false
set_option linter.unusedSimpArgs false
set_option linter.unusedSectionVars false
set_option linter.constructorNameAsVariable false
namespace Go.Ev
open Go Go.RowKit
variable {r : DV}
noncomputable def layDL (own : Bool) (l : List DV) : Hp → (List AV → Hp → Res) → Res :=
  DV.rec_1 (motive_1 := fun _ => Hp → K → Res) (motive_2 := fun _ => Hp → (List AV → Hp → Res) → Res) (fun x h k => k x h) (fun _ ih h k => ih h fun l h => k (.g l) h)
    (fun e n _ ih h k => ih h fun l h => newO own e l h fun b h => k (.sl b 0 n) h) (fun h k => k [] h) (fun _ _ ih1 ih2 h k => ih1 h fun a h => ih2 h fun l h => k (a :: l) h) l
theorem newO_ok {own : Bool} {e : TypeId} {l : List AV} {h : Hp} {k : Id → Hp → Res} (hx : newO own e l h k = .ok r) : l.length ≤ 4096 ∧ h.nx < 32768 ∧ k (idOf h.nx) ⟨hput (idOf h.nx) (.c own e l.length (CT.lay l 0 CT.z)) h.t, Nat.succ h.nx⟩ = .ok r := by
  unfold newO at hx
  rw [natF_eq, lenL_eq, cif_eq] at hx
  rcases ite_ok hx with ⟨h1, hx⟩ | ⟨_, hx⟩
  · obtain ⟨h2, h3⟩ := hpNew_ok hx
    exact ⟨by simpa [Nat.ble_eq] using h1, h2, h3⟩
  · exact bad_ok hx
section
variable {P : Program} {base : Nat} {w : World}
section
variable {own : Bool} {J : Rn → Hp → List Nat → Prop} (hS : ∀ ρ h l, J ρ h l → Sim P base ρ h w) (hperm : ∀ ρ h l l', l.Perm l' → J ρ h l → J ρ h l')
  (hstep : ∀ (ρ : Rn) (h : Hp) (a : Nat) (l : List Nat) (e : TypeId) (xs : List AV) (cs : Array Value) (fz : Nat × Nat), J ρ h (a :: l) → h.nx < 32768 → w.heap[a]? = some (.cells cs e fz) → RL P ρ xs (cs.toList.take xs.length) → xs.length ≤ cs.size → xs.length ≤ 4096 →
    J (ρ.add (idOf h.nx) a cs.size xs.length e) ⟨hput (idOf h.nx) (.c own e xs.length (CT.lay xs 0 CT.z)) h.t, Nat.succ h.nx⟩ l)
include hS hperm hstep
mutual
theorem layD_ok : ∀ (d : DV) {v : Value} {bs rest : List Nat} {ρ : Rn} {h : Hp} {k : K}, DR' P w ρ.sy d v bs → J ρ h (bs ++ rest) → layD own d h k = .ok r → ∃ x ρ1 h1, RV P ρ1 x v ∧ ρ.le ρ1 ∧ J ρ1 h1 rest ∧ k x h1 = .ok r
  | .v x, v, bs, rest, ρ, h, k, hd, hj, hx => by
    obtain ⟨rfl, h1, h2⟩ := hd
    exact ⟨x, ρ, h, clo_any (ρ := rn0 ρ.sy w) (ρ' := ρ) h1 rfl h2, .refl ρ, hj, hx⟩
  | .g l, v, bs, rest, ρ, h, k, hd, hj, hx => by
    obtain ⟨c, rfl, h1⟩ := hd
    obtain ⟨xs, ρ1, h1', g1, g2, g3, g4⟩ := layDL_ok l h1 hj (show layDL own l h (fun l h => k (.g l) h) = .ok r from hx)
    exact ⟨.g xs, ρ1, h1', by simp only [RV]; exact ⟨c, rfl, g1⟩, g2, g3, g4⟩
  | .l e n l, v, bs, rest, ρ, h, k, hd, hj, hx => by
    obtain ⟨a, ad, cap, cs, fz, bs', rfl, hn, hc, hw, hl, hle, h1, rfl⟩ := hd
    have hj' : J ρ h (bs' ++ (a :: rest)) := hperm _ _ _ _ (List.perm_middle.symm) hj
    obtain ⟨xs, ρ1, h1', g1, g2, g3, g4⟩ := layDL_ok l h1 hj' (show layDL own l h (fun l h => newO own e l h fun b h => k (.sl b 0 n) h) = .ok r from hx)
    have hlen : xs.length = l.length := by have := g1.length; simp at this; omega
    obtain ⟨q1, q2, q3⟩ := newO_ok g4
    have hb := (hS _ _ _ g3).nx h1'.nx (Nat.le_refl _) q2
    have hle2 := Rn.le_add (ρ := ρ1) hb a cs.size xs.length e
    refine ⟨_, _, _, ?_, g2.trans hle2, hstep ρ1 h1' a rest e xs cs fz g3 q2 hw (by rw [hlen]; exact g1) (by omega) q1, q3⟩
    simp only [RV]
    refine ⟨a, ad, cap, by simp [Rn.add], rfl, hn, ?_⟩
    have e1 : (ρ1.add (idOf h1'.nx) a cs.size xs.length e).ty (idOf h1'.nx) = e := by simp [Rn.add]
    have e2 : (ρ1.add (idOf h1'.nx) a cs.size xs.length e).csz (idOf h1'.nx) = cs.size := by simp [Rn.add]
    have e3 : (ρ1.add (idOf h1'.nx) a cs.size xs.length e).ext (idOf h1'.nx) = xs.length := by simp [Rn.add]
    have e4 : (ρ1.add (idOf h1'.nx) a cs.size xs.length e).off (idOf h1'.nx) = 0 := by simp [Rn.add]
    rw [e1, e2, e3, e4, Nat.add_zero, hlen, hl]
    rcases hc with ⟨c1, c2⟩ | ⟨c1, c2⟩
    · exact .inl ⟨c1, by omega, by have := Nat.mul_le_mul_right (P.cellsOf e) hn; omega⟩
    · exact .inr ⟨c1, c2, by subst c1; omega⟩
theorem layDL_ok : ∀ (l : List DV) {vs : List Value} {bs rest : List Nat} {ρ : Rn} {h : Hp} {k : List AV → Hp → Res}, DL P w ρ.sy l vs bs → J ρ h (bs ++ rest) → layDL own l h k = .ok r → ∃ xs ρ1 h1, RL P ρ1 xs vs ∧ ρ.le ρ1 ∧ J ρ1 h1 rest ∧ k xs h1 = .ok r
  | [], vs, bs, rest, ρ, h, k, hd, hj, hx => by
    obtain ⟨rfl, rfl⟩ := hd
    exact ⟨[], ρ, h, by simp only [RL], .refl ρ, hj, hx⟩
  | d :: l, vs, bs, rest, ρ, h, k, hd, hj, hx => by
    obtain ⟨v, vs', b1, b2, rfl, h1, h2, rfl⟩ := hd
    rw [List.append_assoc] at hj
    obtain ⟨x, ρ1, h1', g1, g2, g3, g4⟩ := layD_ok d h1 hj (show layD own d h (fun a h => layDL own l h fun l h => k (a :: l) h) = .ok r from hx)
    obtain ⟨xs, ρ2, h2', q1, q2, q3, q4⟩ := layDL_ok l (by rw [g2.sy]; exact h2) g3 g4
    exact ⟨x :: xs, ρ2, h2', by simp only [RL]; exact ⟨v, vs', rfl, RV.mono q2 _ _ g1, q1⟩, g2.trans q2, q3, q4⟩
end
theorem layL_ok : ∀ (l : List DV) {vs : List Value} {bs rest : List Nat} {ρ : Rn} {h : Hp} {k : List AV → Hp → Res}, DL P w ρ.sy l vs bs → J ρ h (bs ++ rest) → layL own l h k = .ok r → ∃ xs ρ1 h1, RL P ρ1 xs vs ∧ ρ.le ρ1 ∧ J ρ1 h1 rest ∧ k xs h1 = .ok r
  | [], vs, bs, rest, ρ, h, k, hd, hj, hx => by
    obtain ⟨rfl, rfl⟩ := hd
    exact ⟨[], ρ, h, by simp only [RL], .refl ρ, hj, hx⟩
  | d :: l, vs, bs, rest, ρ, h, k, hd, hj, hx => by
    obtain ⟨v, vs', b1, b2, rfl, h1, h2, rfl⟩ := hd
    rw [List.append_assoc] at hj
    obtain ⟨x, ρ1, h1', g1, g2, g3, g4⟩ := layD_ok hS hperm hstep d h1 hj (show layD own d h (fun a h => layL own l h fun l h => k (a :: l) h) = .ok r from hx)
    obtain ⟨xs, ρ2, h2', q1, q2, q3, q4⟩ := layL_ok l (by rw [g2.sy]; exact h2) g3 g4
    exact ⟨x :: xs, ρ2, h2', by simp only [RL]; exact ⟨v, vs', rfl, RV.mono q2 _ _ g1, q1⟩, g2.trans q2, q3, q4⟩
end
theorem hold_row {ρ' : Rn} {id : Id} {a b : Nat} {own : Bool} {e : TypeId} {xs : List AV} {cs : Array Value} {lo hi : Nat} (hb : ρ'.blk id = some a) (he : ρ'.ext id = xs.length) (ht : ρ'.ty id = e) (hc : ρ'.csz id = cs.size) (hof : ρ'.off id = 0) (hw : w.heap[a]? = some (.cells cs e (lo, hi)))
    (rl : RL P ρ' xs (cs.toList.take xs.length)) (hle : xs.length ≤ cs.size) (h4 : xs.length ≤ 4096) (ho : own = true → b ≤ a ∧ Thaw P e cs.size lo hi) : Holds P b ρ' id a w (.c own e xs.length (CT.lay xs 0 CT.z)) := by
  obtain ⟨r1, r2⟩ := lay_new xs h4
  refine ⟨he, ht, r1, cs, lo, hi, ⟨_, hw, fun _ => rfl⟩, by rw [hof, Nat.zero_add]; exact hc.symm, by rw [hof, Nat.zero_add]; exact hle, fun j hj => ?_, ho⟩
  obtain ⟨v, q1, q2⟩ := rl.get j hj
  rw [List.getElem?_take, if_pos hj] at q1
  exact ⟨v, by rw [hof, Nat.zero_add]; simpa using q1, by rw [r2 j hj]; exact q2⟩
/-- To be read alone. -/
def JN (P : Program) (base : Nat) (w : World) (ρ : Rn) (h : Hp) (_ : List Nat) : Prop := Sim P base ρ h w ∧ ∀ c a, ρ.blk c = some a → ¬ Own h c
theorem jn_step (ρ : Rn) (h : Hp) (a : Nat) (l : List Nat) (e : TypeId) (xs : List AV) (cs : Array Value) (fz : Nat × Nat) (hj : JN P base w ρ h (a :: l)) (hn : h.nx < 32768) (hw : w.heap[a]? = some (.cells cs e fz)) (rl : RL P ρ xs (cs.toList.take xs.length))
    (hle : xs.length ≤ cs.size) (h4 : xs.length ≤ 4096) : JN P base w (ρ.add (idOf h.nx) a cs.size xs.length e) ⟨hput (idOf h.nx) (.c false e xs.length (CT.lay xs 0 CT.z)) h.t, Nat.succ h.nx⟩ l := by
  obtain ⟨s, no⟩ := hj
  have hb := s.nx h.nx (Nat.le_refl _) hn
  have hle2 := Rn.le_add (ρ := ρ) hb a cs.size xs.length e
  have hother : ∀ c, c ≠ idOf h.nx → (ρ.add (idOf h.nx) a cs.size xs.length e).blk c = ρ.blk c := fun c hc => by simp [Rn.add, hc]
  have hat' : ∀ c, c ≠ idOf h.nx → hat c (hput (idOf h.nx) (.c false e xs.length (CT.lay xs 0 CT.z)) h.t) = hat c h.t := fun c hc => hat_hput_ne _ _ (Ne.symm hc)
  have hself : hat (idOf h.nx) (hput (idOf h.nx) (.c false e xs.length (CT.lay xs 0 CT.z)) h.t) = .c false e xs.length (CT.lay xs 0 CT.z) := hat_hput_self ..
  have noown : ∀ c a', (ρ.add (idOf h.nx) a cs.size xs.length e).blk c = some a' → ¬ Own ⟨hput (idOf h.nx) (.c false e xs.length (CT.lay xs 0 CT.z)) h.t, Nat.succ h.nx⟩ c := fun c a' hc ho => by
    by_cases ec : c = idOf h.nx
    · subst ec
      unfold Own at ho
      rw [show hat (idOf h.nx) (Hp.mk (hput (idOf h.nx) (.c false e xs.length (CT.lay xs 0 CT.z)) h.t) h.nx.succ).t = _ from hself] at ho
      rcases ho with ⟨_, _, _, q⟩ | ⟨_, _, q⟩ | ⟨_, _, q⟩ <;> cases q
    · rw [hother c ec] at hc
      refine no c a' hc ?_
      unfold Own at ho ⊢
      rw [← hat' c ec]; exact ho
  have ha : a < w.heap.size := by
    rcases Nat.lt_or_ge a w.heap.size with c | c
    · exact c
    · rw [Array.getElem?_eq_none c] at hw; cases hw
  refine ⟨⟨s.bs, fun c a' hc => ?_, fun c a' hc => ?_, fun c d a' hc hd lc _ => absurd lc (noown c a' hc), fun n h1 h2 => ?_, fun g hg => (hle2.h _ _ (s.gl g hg)).1, by rw [hle2.sy]; exact s.kn, s.tb, fun g hg => ⟨(hle2.h _ _ (s.gl g hg)).2.1.trans (s.ct g hg).1, (hle2.of _ _ (s.gl g hg)).trans (s.ct g hg).2⟩, fun c a' hc ho => (by
      rcases ho with ho | ho
      · exact absurd ho (noown c a' hc)
      · by_cases ec : c = idOf h.nx
        · subst ec; simp [Rn.add]
        · rw [hother c ec] at hc
          have := s.oz c a' hc (.inr ho)
          simpa [Rn.add, ec] using this)⟩, noown⟩
  · by_cases ec : c = idOf h.nx
    · subst ec; simp [Rn.add] at hc; omega
    · rw [hother c ec] at hc; exact s.lt c a' hc
  · by_cases ec : c = idOf h.nx
    · subst ec
      have ea : a' = a := by simp [Rn.add] at hc; exact hc.symm
      subst ea
      show Holds P base _ _ _ _ (hat _ (hput _ _ _))
      rw [hself]
      exact hold_row hc (by simp [Rn.add]) (by simp [Rn.add]) (by simp [Rn.add]) (by simp [Rn.add]) hw (RL.mono hle2 _ _ rl) hle h4 fun e => by cases e
    · rw [hother c ec] at hc
      show Holds P base _ _ _ _ (hat _ (hput _ _ _))
      rw [hat' c ec]
      exact (s.ob c a' hc).mono hle2 hc
  · have : idOf n ≠ idOf h.nx := fun e => by have := idOf_inj h2 hn e; have h1' : h.nx + 1 ≤ n := h1; omega
    rw [hother _ this]
    exact s.nx n (Nat.le_of_succ_le h1) h2
/-- To be had. -/
def JO (P : Program) (base : Nat) (ρ0 : Rn) (h0 : Hp) (w0 w : World) (ρ : Rn) (h : Hp) (l : List Nat) : Prop := Stp P base ρ0 h0 w0 ρ h w ∧ l.Nodup ∧ ∀ a ∈ l, base ≤ a ∧ w0.heap.size ≤ a ∧ a < w.heap.size ∧ (∃ cs e lo hi, w.heap[a]? = some (.cells cs e (lo, hi)) ∧ Thaw P e cs.size lo hi) ∧ ∀ b, ρ.blk b = some a → ¬ Live h b
theorem jo_step {ρ0 : Rn} {h0 : Hp} {w0 : World} (ρ : Rn) (h : Hp) (a : Nat) (l : List Nat) (e : TypeId) (xs : List AV) (cs : Array Value) (fz : Nat × Nat) (hj : JO P base ρ0 h0 w0 w ρ h (a :: l)) (hn : h.nx < 32768) (hw : w.heap[a]? = some (.cells cs e fz)) (rl : RL P ρ xs (cs.toList.take xs.length))
    (hle : xs.length ≤ cs.size) (h4 : xs.length ≤ 4096) : JO P base ρ0 h0 w0 w (ρ.add (idOf h.nx) a cs.size xs.length e) ⟨hput (idOf h.nx) (.c true e xs.length (CT.lay xs 0 CT.z)) h.t, Nat.succ h.nx⟩ l := by
  obtain ⟨st, nd, hall⟩ := hj
  obtain ⟨a1, a2, a3, ⟨cs', e', lo, hi, a4, a5⟩, a6⟩ := hall a (by simp)
  rw [hw] at a4
  cases a4
  rw [List.nodup_cons] at nd
  have hb := st.sim.nx h.nx (Nat.le_refl _) hn
  have hatne : ∀ b, ρ.blk b ≠ none → hat b (hput (idOf h.nx) (.c true e xs.length (CT.lay xs 0 CT.z)) h.t) = hat b h.t := fun b hne => hat_hput_ne _ _ fun e => hne (e ▸ hb)
  have st1 := st.absPut st.nx hn hb (.c true e xs.length (CT.lay xs 0 CT.z)) (Nat.le_succ h.nx)
  have hl1 : ∀ b, ρ.blk b = some a → ¬ Live ⟨hput (idOf h.nx) (.c true e xs.length (CT.lay xs 0 CT.z)) h.t, Nat.succ h.nx⟩ b := fun b hb' lb => a6 b hb' (by unfold Live at lb ⊢; rw [← hatne b (by rw [hb']; simp)]; exact lb)
  have st2 := st1.late (a := a) (csz := cs.size) (ext := xs.length) (ty := e) st.nx hn (Nat.lt_succ_self _) hb a2 a3 (Nat.le_refl _) (fun _ _ _ => rfl) hl1 (.refl _ _) fun ρ' he hle' => by
    rw [show hat (idOf h.nx) (Hp.mk (hput (idOf h.nx) (.c true e xs.length (CT.lay xs 0 CT.z)) h.t) h.nx.succ).t = _ from hat_hput_self ..]
    subst he
    exact hold_row (by simp [Rn.add]) (by simp [Rn.add]) (by simp [Rn.add]) (by simp [Rn.add]) (by simp [Rn.add]) hw (RL.mono hle' _ _ rl) hle h4 fun _ => ⟨a1, a5⟩
  refine ⟨st2, nd.2, fun a' ha' => ?_⟩
  obtain ⟨b1, b2, b3, b4, b5⟩ := hall a' (by simp [ha'])
  refine ⟨b1, b2, b3, b4, fun b hb' lb => ?_⟩
  by_cases eb : b = idOf h.nx
  · subst eb
    have : a' = a := by simp [Rn.add] at hb'; exact hb'.symm
    subst this
    exact nd.1 ha'
  · have hb2 : ρ.blk b = some a' := by simpa [Rn.add, eb] using hb'
    exact b5 b hb2 (by unfold Live at lb ⊢; rw [← hatne b (by rw [hb2]; simp)]; exact lb)
end
end Go.Ev
namespace Go.Ev
open Go Go.RowKit
variable {r : DV}
section
variable {P : Program}
theorem Does.mono {f : FuncId} {args : Array Value} {w : World} {R R' : Ending → World → Prop} (h : Does P f args w R) (k : ∀ e w', R e w' → R' e w') : Does P f args w R' := by
  rcases h with ⟨v, w', h1, h2⟩ | ⟨h1, h2⟩
  · exact .inl ⟨v, w', h1, k _ _ h2⟩
  · exact .inr ⟨h1, h2.mono k⟩
theorem deep1_ok {base : Nat} {ρ : Rn} {h : Hp} {w : World} (s : Sim P base ρ h w) (fuel : Nat) : ∀ (l : List AV) (vs : List Value) (k : List DV → Res), RL P ρ l vs → deep1 (deep P h fuel) l k = .ok r → ∃ ds bs, DL P w ρ.sy ds vs bs ∧ ds.length = l.length ∧ k ds = .ok r
  | [], vs, k, rl, hx => by simp only [RL] at rl; subst rl; exact ⟨[], [], ⟨rfl, rfl⟩, rfl, hx⟩
  | a :: l, vs, k, rl, hx => by
    simp only [RL] at rl
    obtain ⟨v, vs', rfl, rv, rl⟩ := rl
    have hx' : deep P h fuel a (fun d => deep1 (deep P h fuel) l fun ds => k (d :: ds)) = .ok r := hx
    obtain ⟨d, b1, h1, hx'⟩ := deep_ok s fuel rv hx'
    obtain ⟨ds, b2, h2, h3, hx'⟩ := deep1_ok s fuel l vs' _ rl hx'
    exact ⟨d :: ds, b1 ++ b2, ⟨v, vs', b1, b2, rfl, h1, h2, rfl⟩, by simp [h3], hx'⟩
theorem deepX1_ok {base : Nat} {ρ : Rn} {w : World} (fuel : Nat) : ∀ (l : List AV) (vs : List Value) (h : Hp) (k : List DV → Hp → Res), Sim P base ρ h w → RL P ρ l vs → deepX1 (deepX P fuel) l h k = .ok r → ∃ ds bs h', DL P w ρ.sy ds vs bs ∧ ds.length = l.length ∧ XO P base ρ h w h' bs ∧ k ds h' = .ok r
  | [], vs, h, k, s, rl, hx => by simp only [RL] at rl; subst rl; exact ⟨[], [], h, ⟨rfl, rfl⟩, rfl, .refl s, hx⟩
  | a :: l, vs, h, k, s, rl, hx => by
    simp only [RL] at rl
    obtain ⟨v, vs', rfl, rv, rl⟩ := rl
    have hx' : deepX P fuel a h (fun d h => deepX1 (deepX P fuel) l h fun ds h => k (d :: ds) h) = .ok r := hx
    obtain ⟨d, b1, h1, g1, g2, hx'⟩ := deepX_ok fuel s rv hx'
    obtain ⟨ds, b2, h2, g3, g4, g5, hx'⟩ := deepX1_ok fuel l vs' h1 _ g2.sim rl hx'
    exact ⟨d :: ds, b1 ++ b2, h2, ⟨v, vs', b1, b2, rfl, g1, g3, rfl⟩, by simp [g4], g2.trans g5 s, hx'⟩
theorem t8a_eq {α β : Type} (t : T8 α) (k : α → β) : t8a t k = k (t.at .a) := by cases t; rfl
theorem isA_ok {d : D8} (h : isA d = true) : d = .a := by cases d <;> first | rfl | cases h
theorem inBr_ok {b : Id} (h : inBr b = true) : b.d1 = .a ∧ b.d2 = .a ∧ b.d3 = .a := by
  obtain ⟨d1, d2, d3, d4, d5⟩ := b
  have h' : an (isA d1) (an (isA d2) (isA d3)) = true := h
  simp only [an_eq, Bool.and_eq_true] at h'
  exact ⟨isA_ok h'.1, isA_ok h'.2.1, isA_ok h'.2.2⟩
theorem all8_ok {α : Type} {f : α → Bool} {t : T8 α} (h : all8 f t = true) (d : D8) : f (t.at d) = true := by
  cases t
  simp only [all8, an_eq, Bool.and_eq_true] at h
  obtain ⟨h1, h2, h3, h4, h5, h6, h7, h8⟩ := h
  cases d <;> assumption
theorem tabF_ok {h : Hp} {k : T8 (T8 AObj) → Res} (hx : tabF h k = .ok r) : ∃ t, (∀ b, inBr b = true → hat b h.t = (t.at b.d4).at b.d5) ∧ k t = .ok r := by
  unfold tabF at hx
  rw [t8a_eq, t8a_eq, t8a_eq] at hx
  refine ⟨_, fun b hb => ?_, hx⟩
  obtain ⟨h1, h2, h3⟩ := inBr_ok hb
  unfold hat
  rw [h1, h2, h3]
theorem hat_onlyT {t : T8 (T8 AObj)} {b : Id} (hb : inBr b = true) : hat b (onlyT t).t = (t.at b.d4).at b.d5 := by
  obtain ⟨h1, h2, h3⟩ := inBr_ok hb
  unfold hat
  rw [h1, h2, h3]; rfl
theorem inBr_lt {n : Nat} (h : n < 64) : inBr (idOf n) = true := by
  have h1 : Nat.mod (Nat.div n 4096) 8 = 0 := by show n / 4096 % 8 = 0; omega
  have h2 : Nat.mod (Nat.div n 512) 8 = 0 := by show n / 512 % 8 = 0; omega
  have h3 : Nat.mod (Nat.div n 64) 8 = 0 := by show n / 64 % 8 = 0; omega
  unfold idOf
  rw [h1, h2, h3]; rfl
theorem dg_a {n : Nat} (hn : n < 8) (h : dg n = .a) : n = 0 := by
  match n, hn with
  | 0, _ => rfl
  | 1, _ | 2, _ | 3, _ | 4, _ | 5, _ | 6, _ | 7, _ => cases h
  | n + 8, h => omega
theorem inBr_ge {n : Nat} (h : inBr (idOf n) = true) (hn : n < 32768) : n < 64 := by
  obtain ⟨h1, h2, h3⟩ := inBr_ok h
  have g1 : n / 4096 % 8 = 0 := dg_a (by omega) h1
  have g2 : n / 512 % 8 = 0 := dg_a (by omega) h2
  have g3 : n / 64 % 8 = 0 := dg_a (by omega) h3
  omega
/-- The tables' part of a renaming. -/
noncomputable def Rn.tab (ρ : Rn) (w : World) : Rn := ⟨fun b => if inBr b then ρ.blk b else none, ρ.csz, ρ.ext, ρ.ty, ρ.sy, w, ρ.off⟩
theorem tab_rv {ρ : Rn} {w : World} {x : AV} {v : Value} (h : tabV x = true) (rv : RV P ρ x v) : RV P (ρ.tab w) x v := by
  cases x <;> first | cases h | skip
  all_goals first
    | (simp only [RV] at rv ⊢; exact rv)
    | (simp only [RV] at rv ⊢
       rename_i b o
       have hb : inBr b = true := h
       obtain ⟨a, h1, h2⟩ := rv
       exact ⟨a, by simp [Rn.tab, hb, h1], h2⟩)
    | (simp only [RV] at rv ⊢
       rename_i b o n
       have hb : inBr b = true := h
       obtain ⟨a, ad, cap, h1, h2⟩ := rv
       exact ⟨a, ad, cap, by simp [Rn.tab, hb, h1], h2⟩)
theorem allV_ok {l : List AV} (h : allV l = true) : ∀ v ∈ l, tabV v = true := by
  induction l with
  | nil => intro v hv; cases hv
  | cons a l ih =>
    have h' : an (tabV a) (allV l) = true := h
    simp only [an_eq, Bool.and_eq_true] at h'
    intro v hv
    rcases List.mem_cons.1 hv with rfl | hv
    · exact h'.1
    · exact ih h'.2 v hv
theorem tabO_ok {o : AObj} (h : tabO o = true) : o = .no ∨ ∃ e n t, o = .c false e n t ∧ ∀ j, j < n → tabV (t.get j) = true := by
  cases o with
  | no => exact .inl rfl
  | m _ _ => cases h
  | bs _ _ => cases h
  | c own e n t =>
    have h' : an (nt own) (allV (t.cells n 0)) = true := h
    simp only [an_eq, nt_eq, Bool.and_eq_true, Bool.not_eq_true'] at h'
    obtain ⟨rfl, h2⟩ := h'
    refine .inr ⟨e, n, t, rfl, fun j hj => ?_⟩
    rw [cells_eq] at h2
    refine allV_ok h2 _ (List.mem_map.2 ⟨j, List.mem_range.2 hj, ?_⟩)
    simp
/-- The start of a call run by itself. -/
theorem tab_sim {base : Nat} {ρ : Rn} {h : Hp} {w : World} (s : Sim P base ρ h w) (hG : P.globals.size ≤ 64) {t : T8 (T8 AObj)} (ht : ∀ b, inBr b = true → hat b h.t = (t.at b.d4).at b.d5) (hok : tabOk t = true) :
    JN P w.heap.size w (ρ.tab w) (onlyT t) [] := by
  have blk : ∀ b a, (ρ.tab w).blk b = some a → inBr b = true ∧ ρ.blk b = some a := by
    intro b a hb
    have hb' : (if inBr b then ρ.blk b else none) = some a := hb
    split at hb'
    · exact ⟨by assumption, hb'⟩
    · cases hb'
  have obj : ∀ b, inBr b = true → tabO (hat b (onlyT t).t) = true := fun b hb => by rw [hat_onlyT hb]; exact all8_ok (all8_ok hok _) _
  have no : ∀ b a, (ρ.tab w).blk b = some a → ¬ Own (onlyT t) b := by
    intro b a hb ho
    have := tabO_ok (obj b (blk b a hb).1)
    unfold Own at ho
    rcases this with e | ⟨_, _, _, e, _⟩ <;> rw [e] at ho <;> rcases ho with ⟨_, _, _, q⟩ | ⟨_, _, q⟩ | ⟨_, _, q⟩ <;> cases q
  have oz : ∀ b a, (ρ.tab w).blk b = some a → Own (onlyT t) b ∨ inBr b = false → (ρ.tab w).off b = 0 := by
    intro b a hb ho
    rcases ho with ho | ho
    · exact absurd ho (no b a hb)
    · rw [(blk b a hb).1] at ho; cases ho
  refine ⟨⟨Nat.le_refl _, fun b a hb => s.lt b a (blk b a hb).2, fun b a hb => ?_, fun b c a hb _ ob _ => absurd ob (no b a hb), fun n h1 h2 => ?_, fun g hg => ?_, s.kn, fun i _ => rfl, s.ct, oz⟩, no⟩
  · obtain ⟨h1, h2⟩ := blk b a hb
    have hh := s.ob b a h2
    have he : hat b (onlyT t).t = hat b h.t := by rw [hat_onlyT h1, ht b h1]
    rw [he]
    have ho := obj b h1
    rw [he] at ho
    rcases tabO_ok ho with e | ⟨e, n, c, e', hc⟩
    · rw [e]; trivial
    · rw [e'] at hh ⊢
      obtain ⟨k1, k2, k3, cs, lo, hi, k4, k5, k6, k7, k8⟩ := hh
      exact ⟨k1, k2, k3, cs, lo, hi, k4, k5, k6, fun j hj => let ⟨v, e1, e2⟩ := k7 j hj; ⟨v, e1, tab_rv (hc j hj) e2⟩, fun e => by cases e⟩
  · have h1' : 64 ≤ n := h1
    show (if inBr (idOf n) then ρ.blk (idOf n) else none) = none
    rw [if_neg fun hb => by have := inBr_ge hb h2; omega]
  · show (if inBr (idOf g) then ρ.blk (idOf g) else none) = some g
    rw [if_pos (inBr_lt (by omega))]
    exact s.gl g hg
/-- The caller's heap stands. -/
theorem Stp.apart {base : Nat} {ρ : Rn} {h : Hp} {w w' : World} (s : Sim P base ρ h w) (b : Below w.heap.size w w') : Stp P base ρ h w ρ h w' :=
  ⟨.refl ρ, ⟨Nat.le_trans s.bs b.size, fun c a hc => Nat.lt_of_lt_of_le (s.lt c a hc) b.size, fun c a hc => (s.ob c a hc).world (b.block a (s.lt c a hc)), s.inj, s.nx, s.gl, s.kn, fun i hi => (b.block i (Nat.lt_of_lt_of_le hi s.bs)).trans (s.tb i hi), s.ct, s.oz⟩,
    ⟨b.os, b.tape, b.output, b.size, fun k hk => b.block k (Nat.lt_of_lt_of_le hk s.bs)⟩, Nat.le_refl _, fun a ha _ => b.block a ha, fun _ _ _ _ _ => rfl, fun _ _ _ k => k, fun b a k l => .inr ⟨b, k, l⟩, fun b a k l => .inr ⟨b, k, l⟩⟩
theorem resE_ok {x : Res} {k : DV → Res} (h : resE x k = .ok r) : ∃ d, x = .ok d ∧ k d = .ok r := by
  cases x with
  | ok d => exact ⟨d, rfl, h⟩
  | bad n v => exact bad_ok (show Res.bad n v = .ok r from h)
theorem gE_ok {d : DV} {k : List DV → Res} {n : Nat} (h : gE d k (bad n) = .ok r) : ∃ l, d = .g l ∧ k l = .ok r := by
  cases d with
  | g l => exact ⟨l, rfl, h⟩
  | v _ => exact bad_ok h
  | l _ _ _ => exact bad_ok h
/-- A call run by itself. -/
theorem rDeep_ok {base : Nat} {tup : Bool} {cl0 : Cl} {f : FuncId} (hG : P.globals.size ≤ 64) (h0 : ∀ base, ClOk P base cl0) : RuleOk P base f (rDeep P tup cl0 f) := by
  intro cl _ r args args' h k ρ w rl s hx
  have hx1 : deep1 (deep P h 8) args (fun l => tabF h fun t => resE (byItself P tup cl0 t f l) fun d => cif tup (gE d (fun l => layL true l h fun l h => k (.t l) h) (bad 149)) (layD true d h k)) = .ok r := hx
  clear hx
  obtain ⟨ds, bs, hdl, _, hx2⟩ := deep1_ok s 8 _ _ _ rl hx1
  clear hx1
  obtain ⟨t, ht, hx3⟩ := tabF_ok hx2
  clear hx2
  obtain ⟨d, hd, hx4⟩ := resE_ok hx3
  clear hx3
  unfold byItself at hd
  rw [cif_eq] at hd
  replace hd := (ite_ok hd).elim id fun h => bad_ok h.2
  obtain ⟨hok, hd⟩ := hd
  have jn := tab_sim s hG ht hok
  have jn' : JN P w.heap.size w (ρ.tab w) (onlyT t) (bs ++ []) := jn
  obtain ⟨xs, ρ1, h1, rl1, le1, jn1, hd1⟩ := layL_ok (w := w) (base := w.heap.size) (own := false) (J := JN P w.heap.size w) (fun _ _ _ j => j.1) (fun _ _ _ _ _ j => j) (fun ρ h a l e xs cs fz a1 a2 a3 a4 a5 a6 => jn_step ρ h a l e xs cs fz a1 a2 a3 a4 a5 a6)
    ds (ρ := ρ.tab w) hdl jn' hd
  have dz := (h0 w.heap.size).call f xs args' h1 _ ρ1 w rl1 jn1.1 hd1
  refine dz.mono ?_
  rintro e w' ⟨v', ρ', v, h', rfl, st, rv, hv⟩
  have sy : ρ'.sy = ρ.sy := by rw [st.le.sy, le1.sy]; rfl
  have so : Stp P base ρ h w ρ h w' := Stp.apart s st.bl
  have jo : ∀ (h'' : Hp) (bs' : List Nat), XO P w.heap.size ρ' h' w' h'' bs' → JO P base ρ h w w' ρ h (bs' ++ []) := by
    intro h'' bs' x
    rw [List.append_nil]
    refine ⟨so, x.nd, fun a ha => ?_⟩
    obtain ⟨g1, g2, g3⟩ := x.own a ha
    exact ⟨Nat.le_trans s.bs g1, g1, g2, g3, fun b hb => absurd (s.lt b a hb) (by omega)⟩
  have perm : ∀ (ρ2 : Rn) (h2 : Hp) (l l' : List Nat), l.Perm l' → JO P base ρ h w w' ρ2 h2 l → JO P base ρ h w w' ρ2 h2 l' := fun ρ2 h2 l l' p j => ⟨j.1, (p.nodup_iff).1 j.2.1, fun a ha => j.2.2 a (p.mem_iff.2 ha)⟩
  have step := fun (ρ2 : Rn) (h2 : Hp) a l e xs cs fz a1 a2 a3 a4 a5 a6 => jo_step (P := P) (base := base) (w := w') (ρ0 := ρ) (h0 := h) (w0 := w) ρ2 h2 a l e xs cs fz a1 a2 a3 a4 a5 a6
  unfold topX at hv
  rw [cif_eq] at hv hx4
  cases tup with
  | false =>
    have hv : deepX P 8 v h' (fun d _ => .ok d) = .ok d := hv
    have hx4 : layD true d h k = .ok r := hx4
    obtain ⟨d', bs', h'', g1, g2, g3⟩ := deepX_ok 8 st.sim rv hv
    cases g3
    rw [sy] at g1
    obtain ⟨x, ρ2, h2, q1, q2, q3, q4⟩ := layD_ok (own := true) (J := JO P base ρ h w w') (base := base) (fun _ _ _ j => j.1.sim) perm step d (ρ := ρ) g1 (jo _ _ g2) hx4
    exact ⟨v', ρ2, x, h2, rfl, q3.1, q1, q4⟩
  | true =>
    have hv : asT v (fun l => deepX1 (deepX P 8) l h' fun l _ => .ok (.g l)) = .ok d := hv
    have hx4 : gE d (fun l => layL true l h fun l h => k (.t l) h) (bad 149) = .ok r := hx4
    obtain ⟨l, rfl, hv⟩ := asT_ok hv
    simp only [RV] at rv
    obtain ⟨c, rfl, rlc⟩ := rv
    obtain ⟨ds', bs', h'', g1, _, g2, g3⟩ := deepX1_ok 8 l _ _ _ st.sim rlc hv
    cases g3
    rw [sy] at g1
    obtain ⟨l', he, hx5⟩ := gE_ok hx4
    cases he
    obtain ⟨xs, ρ2, h2, q1, q2, q3, q4⟩ := layL_ok (own := true) (J := JO P base ρ h w w') (base := base) (fun _ _ _ j => j.1.sim) perm step ds' (ρ := ρ) g1 (jo _ _ g2) hx5
    exact ⟨.tuple c, ρ2, .t xs, h2, rfl, q3.1, by simp only [RV]; exact ⟨c, rfl, q1⟩, q4⟩
end
end Go.Ev

/- Part of the proof of CompileForCardSaid. -/
import Derived.Test.YthhgndcpeeifeaaGreatDoorE10
set_option linter.unusedVariables false
set_option linter.unusedSimpArgs false
set_option linter.unusedSectionVars false
set_option linter.constructorNameAsVariable false
namespace Go.Ev
open Go Go.RowKit
variable {r : DV}
section
variable {P : Program} {base N : Nat} {cl : Cl} {ops : Array Oper} {o : Oper}
/-- A block of the world is spoken of from now on. -/
theorem Stp.late {ρ0 ρ : Rn} {h0 h : Hp} {w0 w w' : World} (st : Stp P base ρ0 h0 w0 ρ h w) {n a csz ext : Nat} {ty : TypeId} (h1 : h0.nx ≤ n) (h2 : n < 32768) (hn : n < h.nx) (hb : ρ.blk (idOf n) = none)
    (ha0 : w0.heap.size ≤ a) (ha : a < w'.heap.size) (hsz : w.heap.size ≤ w'.heap.size) (hw : ∀ k, k ≠ a → k < w.heap.size → w'.heap[k]? = w.heap[k]?) (hl : ∀ b, ρ.blk b = some a → ¬ Live h b) (hbl : Below base w w')
    (ho : ∀ ρ', ρ' = ρ.add (idOf n) a csz ext ty → ρ.le ρ' → Holds P base ρ' (idOf n) a w' (hat (idOf n) h.t)) : Stp P base ρ0 h0 w0 (ρ.add (idOf n) a csz ext ty) h w' := by
  have hle := Rn.le_add (ρ := ρ) hb a csz ext ty
  have hnew : (ρ.add (idOf n) a csz ext ty).blk (idOf n) = some a := by simp [Rn.add]
  have hother : ∀ c, c ≠ idOf n → (ρ.add (idOf n) a csz ext ty).blk c = ρ.blk c := fun c hc => by simp [Rn.add, hc]
  refine ⟨st.le.trans hle, ⟨?_, ?_, ?_, ?_, ?_, ?_, by rw [hle.sy]; exact st.sim.kn, fun i hi => (hbl.block i hi).trans (st.sim.tb i hi), fun g hg => ⟨(hle.h _ _ (st.sim.gl g hg)).2.1.trans (st.sim.ct g hg).1, (hle.of _ _ (st.sim.gl g hg)).trans (st.sim.ct g hg).2⟩, oz_add st.sim.oz (fun c _ oc => oc)⟩, st.bl.trans hbl, st.nx, fun k hk hk2 => ?_, fun n' g1 g2 g3 g4 => ?_, fun n' g1 g2 g3 => ?_, fun c x hc lc => ?_, fun c x hc lc => ?_⟩
  · exact Nat.le_trans st.sim.bs hsz
  · intro c x hc
    by_cases e : c = idOf n
    · subst e; rw [hnew] at hc; cases hc; exact ha
    · rw [hother c e] at hc; exact Nat.lt_of_lt_of_le (st.sim.lt c x hc) hsz
  · intro c x hc
    by_cases e : c = idOf n
    · subst e; rw [hnew] at hc; cases hc; exact ho _ rfl hle
    · rw [hother c e] at hc
      by_cases ex : x = a
      · subst ex
        have := hl c hc
        have hno : hat c h.t = .no := Classical.byContradiction fun q => this q
        rw [hno]; trivial
      · exact ((st.sim.ob c x hc).mono hle hc).world (hw x ex (st.sim.lt c x hc))
  · intro c d x hc hd lc ld
    by_cases e : c = idOf n
    · by_cases e2 : d = idOf n
      · rw [e, e2]
      · subst e; rw [hnew] at hc; cases hc
        rw [hother d e2] at hd
        exact absurd ld (hl d hd)
    · rw [hother c e] at hc
      by_cases e2 : d = idOf n
      · subst e2; rw [hnew] at hd; cases hd
        exact absurd lc.live (hl c hc)
      · rw [hother d e2] at hd
        exact st.sim.inj c d x hc hd lc ld
  · intro n' g1 g2
    have : idOf n' ≠ idOf n := fun e => by have := idOf_inj g2 h2 e; omega
    rw [hother _ this]
    exact st.sim.nx n' g1 g2
  · intro g hg
    exact (hle.h _ _ (st.sim.gl g hg)).1
  · have hs := st.bl.size
    rw [hw k (by omega) (by omega)]
    exact st.keep k hk hk2
  · have : idOf n' ≠ idOf n := fun e => by have := idOf_inj g2 h2 e; omega
    rw [hother _ this] at g4
    exact st.old n' g1 g2 g3 g4
  · have : idOf n' ≠ idOf n := fun e => by have := idOf_inj g2 h2 e; omega
    rw [hother _ this]
    exact st.fresh n' g1 g2 g3
  · by_cases e : c = idOf n
    · subst e; rw [hnew] at hc; cases hc; exact .inl ha0
    · rw [hother c e] at hc; exact st.img c x hc lc
  · by_cases e : c = idOf n
    · subst e; rw [hnew] at hc; cases hc; exact .inl ha0
    · rw [hother c e] at hc; exact st.lv c x hc lc
/-- A block that is spoken of no more, or not yet, turns. -/
theorem Stp.touch {ρ0 ρ : Rn} {h0 h : Hp} {w0 w w' : World} (st : Stp P base ρ0 h0 w0 ρ h w) {a : Nat} (ha0 : w0.heap.size ≤ a) (hsz : w.heap.size ≤ w'.heap.size) (hw : ∀ k, k ≠ a → k < w.heap.size → w'.heap[k]? = w.heap[k]?) (hl : ∀ b, ρ.blk b = some a → ¬ Live h b) (hbl : Below base w w') :
    Stp P base ρ0 h0 w0 ρ h w' := by
  refine ⟨st.le, ⟨Nat.le_trans st.sim.bs hsz, fun c x hc => Nat.lt_of_lt_of_le (st.sim.lt c x hc) hsz, fun c x hc => ?_, st.sim.inj, st.sim.nx, st.sim.gl, st.sim.kn, fun i hi => (hbl.block i hi).trans (st.sim.tb i hi), st.sim.ct, st.sim.oz⟩, st.bl.trans hbl, st.nx, fun k hk hk2 => ?_, st.old, st.fresh, st.img, st.lv⟩
  · by_cases ex : x = a
    · subst ex
      have hno : hat c h.t = .no := Classical.byContradiction fun q => hl c hc q
      rw [hno]; trivial
    · exact (st.sim.ob c x hc).world (hw x ex (st.sim.lt c x hc))
  · have hs := st.bl.size
    rw [hw k (by omega) (by omega)]
    exact st.keep k hk hk2
theorem AI.world {F0 : Fr} {n0 : Nat} {L L' : Nat → Bool} {ρ ρ' : Rn} {M : Nat} {V : Nat → AV} {ν : Nat → Nat} {F : Fr} {h : Hp} (A : AI P base N ops cl F0 n0 L ρ M V ν F h) (hL : ∀ i, L i = true → L' i = true)
    (hρ : ∀ p ∈ RS ops, hasBit M p.i = true → kdOp P p.o.op = .make → (IsMap p → ¬ Cmp ops L' p) → (¬ IsMap p → L' p.i = false) → ρ.blk (idOf (ν p.i)) = none → ρ'.blk (idOf (ν p.i)) = none) : AI P base N ops cl F0 n0 L' ρ' M V ν F h := by
  have hl : ∀ {i}, L' i = false → L i = false := fun {i} e => by
    cases hh : L i with
    | false => rfl
    | true => rw [hL i hh] at e; cases e
  have hc : ∀ {m}, ¬ Cmp ops L' m → ¬ Cmp ops L m := fun h c => h ⟨hL _ c.1, fun p hp hi => hL _ (c.2 p hp hi)⟩
  refine ⟨A.fr, A.xd, A.pp, A.pr, A.iv, A.nu, A.inj, fun p hp hb hk hm hl' => ?_, fun m hm hmm hb hc' => ?_⟩
  · have := A.pm p hp hb hk hm (hl hl')
    exact ⟨hρ p hp hb hk (fun h => absurd h hm) (fun _ => hl') this.b, this.x⟩
  · have := A.mp m hm hmm hb (hc hc')
    exact ⟨hρ m hm hb hmm.make (fun _ => hc') (fun h => absurd hmm h) this.b, this.v, this.x⟩
/-- A map that is made, in the world and not yet spoken of. -/
structure RM (P : Program) (base : Nat) (ops : Array Oper) (F0 : Fr) (w0 : World) (L : Nat → Bool) (ρ : Rn) (V : Nat → AV) (h : Hp) (a : Act) (w : World) (m : Row) : Prop where
  x : ∃ s am es', m.o.dst = some s ∧ a.eval (.tmp s) = .map (some am) ∧ base ≤ am ∧ w0.heap.size ≤ am ∧ am < w.heap.size ∧ (∀ b, ρ.blk b = some am → ¬ Live h b) ∧ w.heap[am]? = some (.map es' es'.size) ∧
    ∃ τ : List Row, τ.Nodup ∧ (∀ p, p ∈ τ ↔ p ∈ RS ops ∧ Ins m p ∧ L p.i = true) ∧ MP P ρ (τ.map (ent ops V F0)) es'
/-- What a step leaves as it is. -/
structure Kp (w0 : World) (ρ : Rn) (h : Hp) (w : World) (ρ' : Rn) (h' : Hp) (w' : World) : Prop where
  le : ρ.le ρ'
  sz : w.heap.size ≤ w'.heap.size
  k : ∀ am, w0.heap.size ≤ am → am < w.heap.size → (∀ b, ρ.blk b = some am → ¬ Live h b) → w'.heap[am]? = w.heap[am]? ∧ ∀ b, ρ'.blk b = some am → ¬ Live h' b
theorem Stp.kp {ρ ρ' : Rn} {h h' : Hp} {w w' : World} (st : Stp P base ρ h w ρ' h' w') (w0 : World) : Kp w0 ρ h w ρ' h' w' :=
  ⟨st.le, st.bl.size, fun am _ h5 h6 => ⟨st.keep am h5 fun b hb ob => h6 b hb ob.live, fun b hb lb => by
    rcases st.lv b am hb lb with g | ⟨c, g1, g2⟩
    · omega
    · exact h6 c g1 g2⟩⟩
/-- It stays as it is where something else is done. -/
theorem RM.step {F0 : Fr} {w0 : World} {L L' : Nat → Bool} {ρ ρ' : Rn} {V V' : Nat → AV} {h h' : Hp} {a a' : Act} {w w' : World} {m : Row} (R : RM P base ops F0 w0 L ρ V h a w m) (st : Kp w0 ρ h w ρ' h' w') (hL : ∀ p ∈ RS ops, Ins m p → L' p.i = L p.i)
    (hV : ∀ p ∈ RS ops, Ins m p → L p.i = true → ent ops V' F0 p = ent ops V F0 p) (ha : ∀ s, m.o.dst = some s → a'.eval (.tmp s) = a.eval (.tmp s)) : RM P base ops F0 w0 L' ρ' V' h' a' w' m := by
  obtain ⟨s, am, es', h1, h2, h3, h4, h5, h6, h7, τ, t1, t2, t3⟩ := R.x
  obtain ⟨k1, k2⟩ := st.k am h4 h5 h6
  refine ⟨s, am, es', h1, by rw [ha s h1]; exact h2, h3, h4, Nat.lt_of_lt_of_le h5 st.sz, k2, by rw [k1]; exact h7, τ, t1, fun p => ?_, ?_⟩
  · rw [t2]
    constructor
    · rintro ⟨a1, a2, a3⟩; exact ⟨a1, a2, by rw [hL p a1 a2]; exact a3⟩
    · rintro ⟨a1, a2, a3⟩; exact ⟨a1, a2, by rw [← hL p a1 a2]; exact a3⟩
  · rw [List.map_congr_left (g := ent ops V F0) fun p hp => hV p ((t2 p).1 hp).1 ((t2 p).1 hp).2.1 ((t2 p).1 hp).2.2]
    exact t3.mono st.le
theorem ent_congr {V V' : Nat → AV} {F0 : Fr} {r : Row} (h : ∀ i, hasBit r.anc i = true → V' i = V i) : ent ops V' F0 r = ent ops V F0 r := by
  unfold ent
  cases insOf r.o.op with
  | none => rfl
  | some x =>
    obtain ⟨s, n, u⟩ := x
    simp only []
    congr 1
    cases u <;> first | rfl | exact ov_congr h _
/-- What is left as it is of a map that is made, in the evaluator. -/
theorem MP'.keep {F0 : Fr} {ρ ρ' : Rn} {M M' : Nat} {V V' : Nat → AV} {ν : Nat → Nat} {h h' : Hp} {m : Row} (R : MP' ops F0 ρ M V ν h m) (hb : ρ'.blk (idOf (ν m.i)) = none) (hv : V' m.i = V m.i) (hM : ∀ p ∈ RS ops, Ins m p → (hasBit M' p.i = true ↔ hasBit M p.i = true))
    (hV : ∀ p ∈ RS ops, Ins m p → hasBit M p.i = true → ent ops V' F0 p = ent ops V F0 p) (hh : hat (idOf (ν m.i)) h'.t = hat (idOf (ν m.i)) h.t) : MP' ops F0 ρ' M' V' ν h' m := by
  obtain ⟨_, v, σ, s1, s2, s3⟩ := R
  refine ⟨hb, by rw [hv]; exact v, σ, s1, fun p => ?_, ?_⟩
  · rw [s2]
    constructor
    · rintro ⟨a1, a2, a3⟩; exact ⟨a1, a2, (hM p a1 a2).2 a3⟩
    · rintro ⟨a1, a2, a3⟩; exact ⟨a1, a2, (hM p a1 a2).1 a3⟩
  · rw [hh, s3]
    congr 1
    exact List.map_congr_left fun p hp => (hV p ((s2 p).1 hp).1 ((s2 p).1 hp).2.1 ((s2 p).1 hp).2.2).symm
/-- All maps that are filled are one. -/
theorem DS.one_map (S : DS P ops) {m m' p p' : Row} (hm : m ∈ RS ops) (hm' : m' ∈ RS ops) (hp : p ∈ RS ops) (hp' : p' ∈ RS ops) (h : Ins m p) (h' : Ins m' p') : m = m' := by
  rcases S.litP with hno | ⟨s0, q0, LP⟩
  · exact absurd (h.kd (P := P)) (hno p hp)
  · have key : ∀ {m p : Row}, m ∈ RS ops → p ∈ RS ops → Ins m p → m = q0 := fun {m p} hm hp h => by
      obtain ⟨_, _, t, n, v, e, _⟩ := LP.ins p hp h.kd
      obtain ⟨s, t', n', v', h1, h2⟩ := h
      rw [e] at h2; cases h2
      have := S.dst hm h1
      rw [S.dst LP.q LP.qd] at this
      exact (Option.some.inj this).symm
    rw [key hm hp h, key hm' hp' h']
theorem eval_put_ne {a a' : Act} {o : Oper} {v' : Value} {s : Nat} (ht : a'.tmps = (a.put o.dst v').tmps) (hs : ∀ d, o.dst = some d → d ≠ s) : a'.eval (.tmp s) = a.eval (.tmp s) := by
  have e1 : a'.eval (.tmp s) = (a.put o.dst v').eval (.tmp s) := by simp only [Act.eval, ht]
  rw [e1]
  exact Act.eval_put fun d' hd' e => by cases e; exact hs _ hd' rfl
end
end Go.Ev
namespace Go.Ev
open Go Go.RowKit
/-- How the world stands to the evaluator, on the way. -/
structure RX (P : Program) (base N : Nat) (ops : Array Oper) (cl : Cl) (F0 : Fr) (ρ0 : Rn) (h0 : Hp) (w0 : World) (r : DV) (k : KR) (L : Nat → Bool) (a : Act) (w : World)
    (M : Nat) (V : Nat → AV) (ν : Nat → Nat) (F Fc : Fr) (D : List Dfr) (h : Hp) (ρ : Rn) (done es live : List Row) (t : List PI) : Prop where
  down : Down ops L
  de : effsO P ops = done ++ es
  dl : ∀ e ∈ done, L e.i = true
  el : ∀ e ∈ es, hasBit M e.i = false
  ql : ∀ p ∈ quietO P ops, lvl (effsO P ops) p ≤ done.length → hasBit M p.i = true
  lm : ∀ i, L i = true → hasBit M i = true
  ai : AI P base N ops cl F0 h0.nx L ρ M V ν F h
  rl : ∀ p ∈ live, (p ∈ RS ops ∧ kdOp P p.o.op = .read ∧ hasBit M p.i = true) ∧ PQ P ops cl F0 V p h (V p.i)
  rd : ∀ p ∈ RS ops, kdOp P p.o.op = .read → hasBit M p.i = true → p ∈ live ∨ ∃ e ∈ done, hasBit e.anc p.i = true
  fr : FR P ρ N Fc a
  fc : ∀ t, t < 512 → (∀ m ∈ RS ops, IsMap m → m.o.dst = some t → L m.i = true → Cmp ops L m) → getN t Fc = cur ops V F0 L t
  dr : DR P ρ D a.defers
  st : Stp P base ρ0 h0 w0 ρ h w
  tl : Tail P ops es done.length M live t
  hx : evOps cl k (t.map (trPI P ops)) F D h = .ok r
  rm : ∀ m ∈ RS ops, IsMap m → L m.i = true → ¬ Cmp ops L m → RM P base ops F0 w0 L ρ V h a w m
def RInv (P : Program) (base N : Nat) (ops : Array Oper) (cl : Cl) (F0 : Fr) (ρ0 : Rn) (h0 : Hp) (w0 : World) (r : DV) (k : KR) (L : Nat → Bool) (a : Act) (w : World) : Prop :=
  ∃ M V ν F Fc D h ρ done es live t, RX P base N ops cl F0 ρ0 h0 w0 r k L a w M V ν F Fc D h ρ done es live t
def plus (L : Nat → Bool) (i : Nat) : Nat → Bool := fun j => decide (j = i) || L j
theorem plus_self (L : Nat → Bool) (i : Nat) : plus L i i = true := by simp [plus]
theorem plus_ne (L : Nat → Bool) {i j : Nat} (h : j ≠ i) : plus L i j = L j := by simp [plus, h]
theorem plus_le {L : Nat → Bool} {i j : Nat} (h : L j = true) : plus L i j = true := by simp [plus, h]
section
variable {P : Program} {base N : Nat} {cl : Cl} {ops : Array Oper} {r : DV} {k : KR} {F0 : Fr} {ρ0 : Rn} {h0 : Hp} {w0 : World} {L : Nat → Bool} {a : Act} {w : World}
variable {M : Nat} {V : Nat → AV} {ν : Nat → Nat} {F Fc : Fr} {D : List Dfr} {h : Hp} {ρ : Rn} {done es live : List Row} {t : List PI}
/-- What comes next. -/
structure Nx (ops : Array Oper) (L : Nat → Bool) (p : Row) : Prop where
  m : p ∈ RS ops
  l : L p.i = false
  e : ∀ e ∈ p.o.after.toList, Region.binds .any e = true → L e.on = true
theorem Nx.anc (S : DS P ops) {p : Row} (n : Nx ops L p) (hd : Down ops L) : ∀ q, hasBit p.anc q = true → L q = true := S.down hd p.i (Nat.le_refl _) n.m n.e
theorem Nx.down {p : Row} (n : Nx ops L p) (hd : Down ops L) : Down ops (plus L p.i) := fun q hq hl e he hb => by
  by_cases e1 : q = p
  · subst e1; exact plus_le (n.e e he hb)
  · have : q.i ≠ p.i := fun e2 => e1 (rs_eq hq n.m e2)
    rw [plus_ne L this] at hl
    exact plus_le (hd q hq hl e he hb)
theorem Nx.cmp {p m : Row} (n : Nx ops L p) (hm : m ∈ RS ops) (hne : m ≠ p) (hni : ¬ Ins m p) : Cmp ops (plus L p.i) m ↔ Cmp ops L m := by
  have e1 : plus L p.i m.i = L m.i := plus_ne L fun e => hne (rs_eq hm n.m e)
  constructor
  · rintro ⟨h1, h2⟩
    refine ⟨by rw [← e1]; exact h1, fun q hq hi => ?_⟩
    have : q.i ≠ p.i := fun e => hni (rs_eq hq n.m e ▸ hi)
    rw [← plus_ne L this]; exact h2 q hq hi
  · rintro ⟨h1, h2⟩
    exact ⟨plus_le h1, fun q hq hi => plus_le (h2 q hq hi)⟩
variable (S : DS P ops)
include S
theorem RX.viewC (R : RX P base N ops cl F0 ρ0 h0 w0 r k L a w M V ν F Fc D h ρ done es live t) {p : Row} (n : Nx ops L p) (hok : okOp P N ops p.o = true) {s : Nat} (hs : s ∈ looksO ops p.o) (hni : ∀ m ∈ RS ops, IsMap m → m.o.dst = some s → ¬ Ins m p) :
    getN s Fc = ov ops V F0 p s := by
  have hanc := n.anc S R.down
  rw [R.fc s (looks_lt hok s hs) fun m hm hmap hd hl => ⟨hl, fun q hq hi => hanc _ ((S.mapP hm hd).oth p n.m (hni m hm hmap hd) hs q hq hi)⟩]
  refine S.view n.m hanc (fun q hq hb => ?_) hs
  cases hh : L q.i with
  | false => rfl
  | true =>
    have := S.anc R.down hq hh hb
    rw [n.l] at this; cases this
/-- What comes next has been done in the evaluator, if it is quiet. -/
theorem RX.bit (R : RX P base N ops cl F0 ρ0 h0 w0 r k L a w M V ν F Fc D h ρ done es live t) {p : Row} (n : Nx ops L p) (hk : kdOp P p.o.op ≠ .eff) : hasBit M p.i = true := by
  have hanc := n.anc S R.down
  refine R.ql p (List.mem_filter.2 ⟨n.m, by simpa [isK] using hk⟩) ?_
  unfold lvl
  rw [R.de, List.filter_append]
  have : es.filter (fun e => hasBit p.anc e.i) = [] := List.filter_eq_nil_iff.2 fun e he hb => by
    have := R.el e he
    rw [R.lm _ (hanc _ hb)] at this; cases this
  rw [this, List.append_nil]
  exact List.length_filter_le _ _
/-- One that computes, or reads. -/
theorem RX.quiet (hcl : ClOk P base cl) (R : RX P base N ops cl F0 ρ0 h0 w0 r k L a w M V ν F Fc D h ρ done es live t) {p : Row} (n : Nx ops L p) (hok : okOp P N ops p.o = true) (hk : kdOp P p.o.op = .pure ∨ kdOp P p.o.op = .read)
    {K : Act → World → Prop} {Q : Exit → Act → World → Prop} (hK : ∀ a' w', RInv P base N ops cl F0 ρ0 h0 w0 r k (plus L p.i) a' w' → K a' w') :
    if Region.wanted p.o (yielded ops a.tmps) then p.o.wp P a w K Q else K (a.put p.o.dst undef) w := by
  have hne : kdOp P p.o.op ≠ .ins := by rcases hk with e | e <;> (rw [e]; simp)
  have hnm : kdOp P p.o.op ≠ .make := by rcases hk with e | e <;> (rw [e]; simp)
  have hnmap : ¬ IsMap p := fun hm => hnm hm.make
  have hnins : ∀ m, ¬ Ins m p := fun m hi => hne hi.kd
  have hbit := R.bit S n (by rcases hk with e | e <;> (rw [e]; simp))
  have ag : ∀ s ∈ looksO ops p.o, getN s Fc = ov ops V F0 p s := fun s hs => R.viewC S n hok hs fun m _ _ _ => hnins m
  have pq : PQ P ops cl F0 V p h (V p.i) := by
    rcases hk with e | e
    · exact R.ai.pp p n.m hbit e h
    · rcases R.rd p n.m e hbit with g | ⟨x, g1, g2⟩
      · exact (R.rl p g).2
      · have hx : x ∈ RS ops := by
          have : x ∈ effsO P ops := by rw [R.de]; simp [g1]
          exact (List.mem_filter.1 this).1
        have := S.anc R.down hx (R.dl x g1) g2
        rw [n.l] at this; cases this
  have q := pq Fc ag
  have hokd : ∀ d, p.o.dst = some d → d < 512 := fun d hd => by
    simp only [okOp, Bool.and_eq_true] at hok
    have := hok.1.2
    rw [hd] at this
    simp only [Bool.and_eq_true] at this
    simpa [Nat.blt_eq] using this.2
  classical
  let k1 : KR := fun F1 D1 h1 => if F1 = putD p.o.dst (V p.i) Fc ∧ D1 = D ∧ h1 = h then Res.ok (.v .u) else bad 0
  have hx1 : oiStep cl (trOp P ops p.o) k1 Fc D h = .ok (.v .u) := by
    rw [q k1 D]; exact if_pos ⟨rfl, rfl, rfl⟩
  refine op_ok (ops_ok hcl) hok R.fr R.dr R.st.sim hx1 fun a' w' hq ⟨v', htm⟩ => hK a' w' ?_
  obtain ⟨ρ', F', D', h', f1, f2, f3, f4⟩ := hq
  have hcond : F' = putD p.o.dst (V p.i) Fc ∧ D' = D ∧ h' = h := Classical.byContradiction fun c => by
    have : k1 F' D' h' = bad 0 := if_neg c
    rw [this] at f4; cases f4
  obtain ⟨rfl, rfl, rfl⟩ := hcond
  have hVs : updV V p.i (V p.i) = V := by funext j; unfold updV; split <;> simp_all
  have hopen : ∀ {m}, m ∈ RS ops → IsMap m → (Cmp ops (plus L p.i) m ↔ Cmp ops L m) := fun {m} hm hmap => n.cmp hm (fun e => hnmap (e ▸ hmap)) (hnins m)
  have hLm : ∀ {m}, m ∈ RS ops → IsMap m → plus L p.i m.i = L m.i := fun {m} hm hmap => plus_ne L fun e => hnmap (rs_eq hm n.m e ▸ hmap)
  refine ⟨M, V, ν, F, _, D', h', ρ', done, es, live, t, n.down R.down, R.de, fun e he => plus_le (R.dl e he), R.el, R.ql, fun i hi => ?_, ?_, R.rl, R.rd, f1, fun s hs ho => ?_, f2, R.st.trans f3, R.tl, R.hx, fun m hm hmap hl hc => ?_⟩
  · by_cases e : i = p.i
    · subst e; exact hbit
    · rw [plus_ne L e] at hi; exact R.lm i hi
  · refine R.ai.world (fun i hi => plus_le hi) fun q hq hb hkq _ _ hn => ?_
    obtain ⟨_, n2, n3⟩ := R.ai.nu q hq hb hkq
    exact f3.fresh _ n2 n3 hn
  · have := S.cur_put n.m (L := L) (L' := plus L p.i) (fun q => rfl) n.l (v := V p.i) hokd hs (R.fc s hs fun m hm hmap hd hl => (hopen hm hmap).1 (ho m hm hmap hd (by rw [hLm hm hmap]; exact hl)))
    rw [hVs] at this; exact this
  · rw [hLm hm hmap] at hl
    refine (R.rm m hm hmap hl fun c => hc ((hopen hm hmap).2 c)).step (f3.kp w0) (fun q hq hi => plus_ne L fun e => hnins m (rs_eq hq n.m e ▸ hi)) (fun _ _ _ _ => rfl) fun s hs => eval_put_ne htm fun d hd e => ?_
    subst e
    have h1 := S.dst n.m hd
    rw [S.dst hm hs] at h1; cases h1
    exact hnmap hmap
end
end Go.Ev
namespace Go.Ev
open Go Go.RowKit
section
variable {P : Program} {base N : Nat} {cl : Cl} {ops : Array Oper} {r : DV} {k : KR} {F0 : Fr} {ρ0 : Rn} {h0 : Hp} {w0 : World} {L : Nat → Bool} {a : Act} {w : World}
variable {M : Nat} {V : Nat → AV} {ν : Nat → Nat} {F Fc : Fr} {D : List Dfr} {h : Hp} {ρ : Rn} {done es live : List Row} {t : List PI}
theorem dst_lt {p : Row} (hok : okOp P N ops p.o = true) {d : Nat} (hd : p.o.dst = some d) : d < N ∧ d < 512 := by
  simp only [okOp, Bool.and_eq_true] at hok
  have := hok.1.2
  rw [hd] at this
  simpa [Nat.blt_eq] using this
theorem alloc_old (w : World) (ob : Obj) {k : Nat} (hk : k < w.heap.size) : (w.alloc ob).heap[k]? = w.heap[k]? := Below.heap_alloc w ob k hk
theorem alloc_new (w : World) (ob : Obj) : (w.alloc ob).heap[w.heap.size]? = some ob := by show (w.heap.push ob)[w.heap.size]? = _; exact Array.getElem?_push_size
theorem alloc_size (w : World) (ob : Obj) : (w.alloc ob).heap.size = w.heap.size + 1 := by show (w.heap.push ob).size = _; exact Array.size_push ..
theorem Sim.fresh {ρ : Rn} {h : Hp} {w : World} (s : Sim P base ρ h w) : ∀ b, ρ.blk b = some w.heap.size → ¬ Live h b := fun b hb => absurd (s.lt b _ hb) (Nat.lt_irrefl _)
theorem Kp.add {ρ : Rn} {h : Hp} {w : World} {id : Id} {csz ext : Nat} {ty : TypeId} (hb : ρ.blk id = none) (ob : Obj) : Kp w0 ρ h w (ρ.add id w.heap.size csz ext ty) h (w.alloc ob) :=
  ⟨Rn.le_add hb .., by rw [alloc_size]; omega, fun am _ h5 h6 => ⟨alloc_old w ob h5, fun b hb' => by
    by_cases e : b = id
    · subst e; simp [Rn.add] at hb'; omega
    · simp [Rn.add, e] at hb'; exact h6 b hb'⟩⟩
theorem Kp.alloc {ρ : Rn} {h : Hp} {w : World} (ob : Obj) : Kp w0 ρ h w ρ h (w.alloc ob) := ⟨.refl ρ, by rw [alloc_size]; omega, fun am _ h5 h6 => ⟨alloc_old w ob h5, h6⟩⟩
variable (S : DS P ops)
include S
/-- A map that is open stays so where another operation is done. -/
theorem RX.rmKeep (R : RX P base N ops cl F0 ρ0 h0 w0 r k L a w M V ν F Fc D h ρ done es live t) {p : Row} (n : Nx ops L p) {ρ' : Rn} {a' : Act} {w' : World} (st : Kp w0 ρ h w ρ' h w') {v' : Value} (htm : a'.tmps = (a.put p.o.dst v').tmps)
    {m : Row} (hm : m ∈ RS ops) (hmap : IsMap m) (hne : m ≠ p) (hni : ¬ Ins m p) (hl : plus L p.i m.i = true) (hc : ¬ Cmp ops (plus L p.i) m) : RM P base ops F0 w0 (plus L p.i) ρ' V h a' w' m := by
  have hLm : plus L p.i m.i = L m.i := plus_ne L fun e => hne (rs_eq hm n.m e)
  rw [hLm] at hl
  refine (R.rm m hm hmap hl fun c => hc ((n.cmp hm hne hni).2 c)).step st (fun q hq hi => plus_ne L fun e => hni (rs_eq hq n.m e ▸ hi)) (fun _ _ _ _ => rfl) fun s hs => eval_put_ne htm fun d hd e => ?_
  subst e
  have h1 := S.dst n.m hd
  rw [S.dst hm hs] at h1; cases h1
  exact hne rfl
/-- The frame, where one more is done. -/
theorem cur_plus {p : Row} (hp : p ∈ RS ops) {d : Nat} (hd : p.o.dst = some d) {s : Nat} : cur ops V F0 (plus L p.i) s = if s = d then V p.i else cur ops V F0 L s := by
  by_cases e : s = d
  · subst e
    rw [if_pos rfl]
    unfold cur
    rw [S.dst hp hd]
    simp only [plus_self, cond_true]
  · rw [if_neg e]
    unfold cur
    cases hw : wrOf (RS ops) s with
    | none => rfl
    | some q =>
      simp only []
      have : q.i ≠ p.i := fun e2 => by
        have h1 := rs_eq (wrOf_some hw).1 hp e2
        have h2 := (wrOf_some hw).2
        rw [h1, hd] at h2; cases h2; exact e rfl
      rw [plus_ne L this]
/-- Memory that is made in the world, and spoken of at once. -/
theorem RX.made (R : RX P base N ops cl F0 ρ0 h0 w0 r k L a w M V ν F Fc D h ρ done es live t) {p : Row} (n : Nx ops L p) (hok : okOp P N ops p.o = true) (hk : kdOp P p.o.op = .make) {d : Nat} (hd : p.o.dst = some d) {ob : Obj} {v' : Value} {csz ext : Nat} {ty : TypeId}
    (hb : ρ.blk (idOf (ν p.i)) = none) (hcm : IsMap p → Cmp ops (plus L p.i) p)
    (ho : ∀ ρ', ρ' = ρ.add (idOf (ν p.i)) w.heap.size csz ext ty → ρ.le ρ' → Holds P base ρ' (idOf (ν p.i)) w.heap.size (w.alloc ob) (hat (idOf (ν p.i)) h.t) ∧ RV P ρ' (V p.i) v') :
    RInv P base N ops cl F0 ρ0 h0 w0 r k (plus L p.i) (a.put (some d) v') (w.alloc ob) := by
  have hnins : ∀ m, ¬ Ins m p := fun m hi => by have := hi.kd (P := P); rw [hk] at this; cases this
  have hbit := R.bit S n (by rw [hk]; simp)
  obtain ⟨n1, n2, n3⟩ := R.ai.nu p n.m hbit hk
  obtain ⟨hdN, hd5⟩ := dst_lt hok hd
  have hle := Rn.le_add (ρ := ρ) hb w.heap.size csz ext ty
  obtain ⟨ho1, ho2⟩ := ho _ rfl hle
  have st1 : Stp P base ρ0 h0 w0 (ρ.add (idOf (ν p.i)) w.heap.size csz ext ty) h (w.alloc ob) := R.st.late n1 n3 n2 hb R.st.bl.size (by rw [alloc_size]; omega) (by rw [alloc_size]; omega) (fun k' _ hk' => alloc_old w ob hk') R.st.sim.fresh (Below.alloc (.refl _ _) R.st.sim.bs ob)
    fun ρ' e hle' => (ho ρ' e hle').1
  have hid : ∀ q ∈ RS ops, hasBit M q.i = true → kdOp P q.o.op = .make → q ≠ p → idOf (ν q.i) ≠ idOf (ν p.i) := fun q hq hbq hkq hne e => hne (R.ai.inj q hq p n.m hbq hbit hkq hk (idOf_inj (R.ai.nu q hq hbq hkq).2.2 n3 e))
  refine ⟨M, V, ν, F, putN d (V p.i) Fc, D, h, _, done, es, live, t, n.down R.down, R.de, fun e he => plus_le (R.dl e he), R.el, R.ql, fun i hi => ?_, ?_, R.rl, R.rd, (R.fr.mono hle).put hdN hd5 ho2, fun s hs hop => ?_, by rw [put_defers]; exact R.dr.mono hle, st1, R.tl, R.hx, fun m hm hmap hl hc => ?_⟩
  · by_cases e : i = p.i
    · subst e; exact hbit
    · rw [plus_ne L e] at hi; exact R.lm i hi
  · refine R.ai.world (fun i hi => plus_le hi) fun q hq hbq hkq c1 c2 hn => ?_
    have hne : q ≠ p := fun e => by
      subst e
      by_cases hm : IsMap q
      · exact c1 hm (hcm hm)
      · have := c2 hm; rw [plus_self] at this; cases this
    have := hid q hq hbq hkq hne
    simp [Rn.add, this]; exact hn
  · rw [cur_plus S n.m hd]
    by_cases e : s = d
    · rw [e, getN_putN_self, if_pos rfl]
    · rw [if_neg e, getN_putN_ne hs hd5 _ _ (Ne.symm e)]
      refine R.fc s hs fun m hm hmap hmd hl => ?_
      have hne : m ≠ p := fun e2 => by subst e2; rw [hd] at hmd; cases hmd; exact e rfl
      exact (n.cmp hm hne (hnins m)).1 (hop m hm hmap hmd (plus_le hl))
  · have hne : m ≠ p := fun e => by subst e; exact hc (hcm hmap)
    exact R.rmKeep S n (.add hb ob) (v' := v') (by rw [hd]) hm hmap hne (hnins m) hl hc
theorem RX.make (R : RX P base N ops cl F0 ρ0 h0 w0 r k L a w M V ν F Fc D h ρ done es live t) {p : Row} (n : Nx ops L p) (hok : okOp P N ops p.o = true) (hk : kdOp P p.o.op = .make)
    {K : Act → World → Prop} {Q : Exit → Act → World → Prop} (hK : ∀ a' w', RInv P base N ops cl F0 ρ0 h0 w0 r k (plus L p.i) a' w' → K a' w') :
    if Region.wanted p.o (yielded ops a.tmps) then p.o.wp P a w K Q else K (a.put p.o.dst undef) w := by
  obtain ⟨hg, d, hd⟩ := S.form_make n.m hk
  have hnins : ∀ m, ¬ Ins m p := fun m hi => by have := hi.kd (P := P); rw [hk] at this; cases this
  have hbit := R.bit S n (by rw [hk]; simp)
  obtain ⟨n1, n2, n3⟩ := R.ai.nu p n.m hbit hk
  have ag : ∀ s ∈ looksO ops p.o, getN s Fc = ov ops V F0 p s := fun s hs => R.viewC S n hok hs fun m _ _ _ => hnins m
  obtain ⟨hdN, hd5⟩ := dst_lt hok hd
  rw [if_pos (by simp [Region.wanted, hg])]
  show p.o.upon P a K Q ((execOp a.eval p.o).run P w)
  have hLp : L p.i = false := n.l
  by_cases hmap : IsMap p
  · have hncL : ¬ Cmp ops L p := fun c => by have := c.1; rw [hLp] at this; cases this
    obtain ⟨mb, mv, σ, s1, s2, s3⟩ := R.ai.mp p n.m hmap hbit hncL
    obtain ⟨tt, ho⟩ := hmap
    have hmap : IsMap p := ⟨tt, ho⟩
    have hrun : (execOp a.eval p.o).run P w = .ok (.value (.map (some w.heap.size))) (w.alloc (.map #[] 0)) := by simp [execOp, ho, Instr.makeMap, newObj]; rfl
    rw [hrun]
    refine hK _ _ ?_
    -- none that fills it is done yet
    have hnof : ∀ q ∈ RS ops, Ins p q → plus L p.i q.i = false := fun q hq hi => by
      have hqp : q.i ≠ p.i := fun e => by
        have := rs_eq hq n.m e
        subst this
        exact hnins _ hi
      rw [plus_ne L hqp]
      cases hh : L q.i with
      | false => rfl
      | true =>
        have h2 := ((S.mapP n.m hd).ins q hq hi).2.1
        have := S.anc R.down hq hh h2
        rw [hLp] at this; cases this
    by_cases hc : Cmp ops (plus L p.i) p
    · have hσ : σ = [] := List.eq_nil_iff_forall_not_mem.2 fun q hq => by
        have hi := (s2 q).1 hq
        have := hc.2 q hi.1 hi.2.1
        rw [hnof q hi.1 hi.2.1] at this; cases this
      subst hσ
      rw [hd]
      refine R.made S n hok hk hd (csz := 0) (ext := 0) (ty := 0) mb (fun _ => hc) fun ρ' e hle => ⟨?_, ?_⟩
      · rw [s3]
        exact ⟨R.st.sim.bs, #[], alloc_new w _, .nil⟩
      · rw [mv]
        simp only [RV]
        subst e
        exact ⟨_, by simp [Rn.add], rfl⟩
    · rw [hd]
      have hL2 : ∀ i, plus L p.i i = true → hasBit M i = true := fun i hi => by
        by_cases e : i = p.i
        · subst e; exact hbit
        · rw [plus_ne L e] at hi; exact R.lm i hi
      refine ⟨M, V, ν, F, putN d .u Fc, D, h, ρ, done, es, live, t, n.down R.down, R.de, fun e he => plus_le (R.dl e he), R.el, R.ql, hL2, ?_, R.rl, R.rd, R.fr.put hdN hd5 (by simp only [RV]), fun s hs hop => ?_, by rw [put_defers]; exact R.dr,
        R.st.touch (a := w.heap.size) R.st.bl.size (by rw [alloc_size]; omega) (fun k' _ hk' => alloc_old w _ hk') R.st.sim.fresh (Below.alloc (.refl _ _) R.st.sim.bs _), R.tl, R.hx, fun m hm hmm hl hcm => ?_⟩
      · exact R.ai.world (fun i hi => plus_le hi) fun q hq hbq hkq c1 c2 hn => hn
      · have e : s ≠ d := fun e => by subst e; exact hc (hop p n.m hmap hd (plus_self _ _))
        rw [cur_plus S n.m hd, if_neg e, getN_putN_ne hs hd5 _ _ (Ne.symm e)]
        refine R.fc s hs fun m hm hmm hmd hl => ?_
        have hne : m ≠ p := fun e2 => by subst e2; rw [hd] at hmd; cases hmd; exact e rfl
        exact (n.cmp hm hne (hnins m)).1 (hop m hm hmm hmd (plus_le hl))
      · by_cases e : m = p
        · subst e
          refine ⟨d, w.heap.size, #[], hd, by simp [Act.put, Act.eval, Array.getD, show d < a.tmps.size from Nat.lt_of_lt_of_le hdN R.fr.sz], R.st.sim.bs, R.st.bl.size, by rw [alloc_size]; omega, R.st.sim.fresh, alloc_new w _, [], .nil, fun q => ⟨fun h => (by cases h), fun ⟨h1, h2, h3⟩ => ?_⟩, ⟨rfl, fun j hj => absurd hj (Nat.not_lt_zero _)⟩⟩
          rw [hnof q h1 h2] at h3; cases h3
        · exact R.rmKeep S n (.alloc _) (v' := .map (some w.heap.size)) (by rw [hd]) hm hmm e (hnins m) hl hcm
  · obtain ⟨mb, e, l, vf, x1, x2, x3, x4⟩ := R.ai.pm p n.m hbit hk hmap hLp
    obtain ⟨vs, v', g1, g2, g3⟩ := x4 Fc ag Fc (fun _ _ => rfl) ρ h w a R.fr R.st.sim
    rw [g2]
    refine hK _ _ ?_
    rw [hd]
    refine R.made S n hok hk hd (csz := vs.size) (ext := l.length) (ty := e) mb (fun hm => absurd hm hmap) fun ρ' he hle => ⟨?_, ?_⟩
    · rw [x3]
      obtain ⟨r1, r2⟩ := lay_new l x2
      have hlen : l.length = vs.size := by simpa using g1.length
      subst he
      refine ⟨by simp [Rn.add], by simp [Rn.add], r1, vs, 0, 0, ⟨_, alloc_new w _, fun _ => rfl⟩, by simp [Rn.add], by simp [Rn.add]; omega, fun j hj => ?_, fun _ => ⟨R.st.sim.bs, fun j _ => by omega⟩⟩
      obtain ⟨v, q1, q2⟩ := g1.get j hj
      exact ⟨v, by simpa [Rn.add] using q1, RV.mono hle _ _ (by rw [r2 j hj]; exact q2)⟩
    · rw [x1]
      subst he
      exact g3 _ _ (by simp [Rn.add]) (by simp [Rn.add]) (by simp [Rn.add]) (by simp [Rn.add]) (by simp [Rn.add])
end
end Go.Ev
namespace Go.Ev
open Go Go.RowKit
theorem nodup_map {α β : Type} {f : α → β} : ∀ {l : List α}, l.Nodup → (∀ x ∈ l, ∀ y ∈ l, f x = f y → x = y) → (l.map f).Nodup
  | [], _, _ => .nil
  | a :: l, h, hi => by
    rw [List.nodup_cons] at h
    rw [List.map_cons, List.nodup_cons]
    refine ⟨fun hm => ?_, nodup_map h.2 fun x hx y hy => hi x (by simp [hx]) y (by simp [hy])⟩
    obtain ⟨y, hy, e⟩ := List.mem_map.1 hm
    exact h.1 (hi y (by simp [hy]) a (by simp) e ▸ hy)
section
variable {P : Program} {base N : Nat} {cl : Cl} {ops : Array Oper} {r : DV} {k : KR} {F0 : Fr} {ρ0 : Rn} {h0 : Hp} {w0 : World} {L : Nat → Bool} {a : Act} {w : World}
variable {M : Nat} {V : Nat → AV} {ν : Nat → Nat} {F Fc : Fr} {D : List Dfr} {h : Hp} {ρ : Rn} {done es live : List Row} {t : List PI}
theorem FR.set {ρ : Rn} {F : Fr} {a : Act} (fr : FR P ρ N F a) {s : Nat} (hs : s < 512) {v : AV} (hv : RV P ρ v (a.eval (.tmp s))) : FR P ρ N (putN s v F) a :=
  ⟨fr.sz, fun n hn => by
    by_cases e : n = s
    · subst e; rw [getN_putN_self]; exact hv
    · rw [getN_putN_ne hn hs v F (Ne.symm e)]; exact fr.v n hn⟩
theorem FR.putD {ρ : Rn} {F : Fr} {a : Act} {p : Row} (fr : FR P ρ N F a) (hok : okOp P N ops p.o = true) {v : AV} {v' : Value} (hv : RV P ρ v v') : FR P ρ N (Ev.putD p.o.dst v F) (a.put p.o.dst v') := by
  cases hd : p.o.dst with
  | none => exact fr
  | some d => exact fr.put (dst_lt hok hd).1 (dst_lt hok hd).2 hv
variable (S : DS P ops)
include S
theorem RX.ins (R : RX P base N ops cl F0 ρ0 h0 w0 r k L a w M V ν F Fc D h ρ done es live t) {p : Row} (n : Nx ops L p) (hok : okOp P N ops p.o = true) (hk : kdOp P p.o.op = .ins)
    {K : Act → World → Prop} {Q : Exit → Act → World → Prop} (hK : ∀ a' w', RInv P base N ops cl F0 ρ0 h0 w0 r k (plus L p.i) a' w' → K a' w') :
    if Region.wanted p.o (yielded ops a.tmps) then p.o.wp P a w K Q else K (a.put p.o.dst undef) w := by
  obtain ⟨m, hm, hmap, hi⟩ := S.ins_map n.m hk
  obtain ⟨s, _, _, _, hds, _⟩ := id hi
  have MPs := S.mapP hm hds
  obtain ⟨hg, g2, tt, nk, u, ho, hu, kt, e, kd, ht, hkt⟩ := MPs.ins p n.m hi
  have hanc := n.anc S R.down
  have hbit := R.bit S n (by rw [hk]; simp)
  have hLm := hanc _ g2
  have hLp : L p.i = false := n.l
  have hnc : ¬ Cmp ops L m := fun hc => by have := hc.2 p n.m hi; rw [hLp] at this; cases this
  have hmne : m ≠ p := fun e => by subst e; have := hmap.make (P := P); rw [hk] at this; cases this
  have hpnm : ¬ IsMap p := fun hm' => by have := hm'.make (P := P); rw [hk] at this; cases this
  obtain ⟨mb, mv, σ, s1, s2, s3⟩ := R.ai.mp m hm hmap (R.lm _ hLm) hnc
  obtain ⟨n1, n2, n3⟩ := R.ai.nu m hm (R.lm _ hLm) hmap.make
  obtain ⟨s', am, es', h1, h2, h3, h4, h5, h6, h7, τ, t1, t2, t3⟩ := (R.rm m hm hmap hLm hnc).x
  rw [hds] at h1; cases h1
  have hs5 := looks_lt hok s (by unfold looksO; rw [ho]; simp [Op.operands, tmpsO])
  have hops : ∀ x ∈ p.o.op.operands.toList, okO P x = true := by
    have h9 := hok
    simp only [okOp, Bool.and_eq_true] at h9
    exact fun x hx => List.all_eq_true.1 h9.1.1 x hx
  have huo : okO P u = true := hops u (by rw [ho]; simp [Op.operands])
  have hul : ∀ x ∈ tmpsO u, x ∈ looksO ops p.o := fun x hx => by unfold looksO; exact List.mem_append_left _ (List.mem_flatMap.2 ⟨u, by rw [ho]; simp [Op.operands], hx⟩)
  have hval : opA u Fc = opV ops V F0 p u := opV_eq fun x hx => R.viewC S n hok (hul x hx) fun m' hm' hmap' hd' hi' => by
    have := S.ins_uniq hm' hm hi' hi
    subst this
    rw [hds] at hd'; cases hd'
    exact hu hx
  have hent : ent ops V F0 p = (.i .i64 nk, opA u Fc) := by unfold ent; rw [ho]; simp only [insOf, hval]
  have rv : RV P ρ (opA u Fc) (a.eval u) := opA_ok R.fr R.st.sim huo
  have rk : RV P ρ (.i .i64 nk) (.int .i64 nk) := by simp only [RV]
  have hkey := key_i (base := base) hkt
  have hfalse : ∀ x ∈ τ.map (ent ops V F0), eqKi (.i .i64 nk) x.1 = some false := by
    intro x hx
    obtain ⟨q, hq, rfl⟩ := List.mem_map.1 hx
    obtain ⟨a1, a2, a3⟩ := (t2 q).1 hq
    obtain ⟨_, _, t', n', u', ho', _⟩ := MPs.ins q a1 a2
    have e1 : (ent ops V F0 q).1 = .i .i64 n' := by unfold ent; rw [ho']; rfl
    have hne : nk ≠ n' := fun e => by
      subst e
      have := MPs.nodup q a1 p n.m _ _ _ _ _ ho' ho
      subst this
      rw [a3] at hLp; cases hLp
    rw [e1]
    show cond (Nat.beq (kn .i64) (kn .i64)) (some (ieq nk n')) none = some false
    rw [show Nat.beq (kn .i64) (kn .i64) = true from rfl, cond_true, ieq_eq, decide_eq_false hne]
  have hfind := (hkey.find R.st.sim rk _ _ t3.er w).1 hfalse
  have hcheck := hkey.check R.st.sim rk (fun e => by cases e) false w
  have hrun : (execOp a.eval p.o).run P w = .ok .skip { w with heap := w.heap.setIfInBounds am (.map (es'.push { key := .int .i64 nk, val := a.eval u, born := es'.size }) (es'.size + 1)) } := by
    have e1 : a.eval (.const (.int .i64 nk)) = .int .i64 nk := rfl
    simp [execOp, ho, h2, e1, Instr.mapUpdate, run_under ht, run_getObj h7, hcheck, hfind, run_setObj h7]
  rw [if_pos (by simp [Region.wanted, hg])]
  show p.o.upon P a K Q ((execOp a.eval p.o).run P w)
  rw [hrun]
  refine hK _ _ ?_
  generalize hw' : { w with heap := w.heap.setIfInBounds am (.map (es'.push { key := .int .i64 nk, val := a.eval u, born := es'.size }) (es'.size + 1)) } = w'
  have wsz : w'.heap.size = w.heap.size := by subst hw'; simp
  have wne : ∀ k', k' ≠ am → w'.heap[k']? = w.heap[k']? := fun k' hk' => by subst hw'; simp [Array.getElem?_setIfInBounds, Ne.symm hk']
  have wam : w'.heap[am]? = some (.map (es'.push { key := .int .i64 nk, val := a.eval u, born := es'.size }) (es'.size + 1)) := by subst hw'; simp [Array.getElem?_setIfInBounds, h5]
  have wbl : Below base w w' := by subst hw'; exact ⟨rfl, rfl, rfl, by simp, fun k' hk' => by simp [Array.getElem?_setIfInBounds, show am ≠ k' by omega]⟩
  clear hw' hrun
  have hL2 : ∀ i, plus L p.i i = true → hasBit M i = true := fun i hi => by
    by_cases e : i = p.i
    · subst e; exact hbit
    · rw [plus_ne L e] at hi; exact R.lm i hi
  have hpτ : p ∉ τ := fun hc => by have := ((t2 p).1 hc).2.2; rw [hLp] at this; cases this
  have mp2 : MP P ρ ((τ ++ [p]).map (ent ops V F0)) (es'.push { key := .int .i64 nk, val := a.eval u, born := es'.size }) := by
    rw [List.map_append, List.map_singleton, hent]
    exact t3.push rk rv
  have nd2 : (τ ++ [p]).Nodup := by
    rw [List.nodup_append]
    refine ⟨t1, by simp, ?_⟩
    intro x hx y hy e
    simp at hy
    subst hy; subst e
    exact hpτ hx
  have mem2 : ∀ q, q ∈ τ ++ [p] ↔ q ∈ RS ops ∧ Ins m q ∧ plus L p.i q.i = true := fun q => by
    rw [List.mem_append, t2, List.mem_singleton]
    constructor
    · rintro (⟨a1, a2, a3⟩ | rfl)
      · exact ⟨a1, a2, plus_le a3⟩
      · exact ⟨n.m, hi, plus_self _ _⟩
    · rintro ⟨a1, a2, a3⟩
      by_cases e : q = p
      · exact .inr e
      · rw [plus_ne L fun e2 => e (rs_eq a1 n.m e2)] at a3
        exact .inl ⟨a1, a2, a3⟩
  have hVp : V p.i = .u := R.ai.iv p n.m hbit hk
  have hVs : updV V p.i .u = V := by funext j; unfold updV; split <;> simp_all
  have hsd : ∀ d, p.o.dst = some d → d ≠ s := fun d hd e => by
    subst e
    have h9 := S.dst n.m hd
    rw [S.dst hm hds] at h9; cases h9
    exact hmne rfl
  have hLmp : plus L p.i m.i = true := plus_le hLm
  have heval : (a.put p.o.dst undef).eval (.tmp s) = a.eval (.tmp s) := eval_put_ne rfl hsd
  -- the frame
  have hfc : ∀ x, x < 512 → x ≠ s → (∀ m' ∈ RS ops, IsMap m' → m'.o.dst = some x → plus L p.i m'.i = true → Cmp ops (plus L p.i) m') → getN x (Ev.putD p.o.dst .u Fc) = cur ops V F0 (plus L p.i) x := fun x hx hxs hop => by
    have := S.cur_put n.m (L := L) (L' := plus L p.i) (fun q => rfl) n.l (v := .u) (fun d hd => (dst_lt hok hd).2) hx (R.fc x hx fun m' hm' hmap' hd' hl' => by
      have hmm : m' ≠ m := fun e => by subst e; rw [hds] at hd'; cases hd'; exact hxs rfl
      exact (n.cmp hm' (fun e => hpnm (e ▸ hmap')) fun hi' => hmm (S.ins_uniq hm' hm hi' hi)).1 (hop m' hm' hmap' hd' (plus_le hl')))
    rw [hVs] at this; exact this
  have hother : ∀ m' ∈ RS ops, IsMap m' → m' ≠ m → plus L p.i m'.i = true → ¬ Cmp ops (plus L p.i) m' → False := fun m' hm' hmap' hne hl' hc' => by
    -- what is open has something that fills it; all that fill, fill one
    have hm'p : m' ≠ p := fun e => hpnm (e ▸ hmap')
    have : ∀ q ∈ RS ops, Ins m' q → False := fun q hq hi' => hne (S.one_map hm' hm hq n.m hi' hi)
    exact hc' ⟨hl', fun q hq hi' => absurd hi' fun h => this q hq h⟩
  by_cases hc : Cmp ops (plus L p.i) m
  · -- filled: spoken of from now on
    have hperm : (τ ++ [p]).Perm σ := (List.perm_ext_iff_of_nodup nd2 s1).2 fun q => by
      rw [mem2, s2]
      constructor
      · rintro ⟨a1, a2, a3⟩; exact ⟨a1, a2, hL2 _ a3⟩
      · rintro ⟨a1, a2, _⟩; exact ⟨a1, a2, hc.2 q a1 a2⟩
    have hlen : σ.length = es'.size + 1 := by
      rw [← hperm.length_eq]
      have := mp2.size
      simpa using this
    have hkd : KD (σ.map (ent ops V F0)) := by
      have hk1 : ∀ q ∈ σ, ∃ n', (ent ops V F0 q).1 = .i .i64 n' ∧ ∃ t' u', q.o.op = .insert t' (.tmp s) (.const (.int .i64 n')) u' := fun q hq => by
        obtain ⟨a1, a2, a3⟩ := (s2 q).1 hq
        obtain ⟨_, _, t', n', u', ho', _⟩ := MPs.ins q a1 a2
        exact ⟨n', by unfold ent; rw [ho']; rfl, t', u', ho'⟩
      refine ⟨fun x hx => ?_, ?_⟩
      · obtain ⟨q, hq, rfl⟩ := List.mem_map.1 hx
        obtain ⟨n', e1, _⟩ := hk1 q hq
        exact ⟨n', e1⟩
      · rw [List.map_map]
        refine nodup_map s1 fun x hx y hy e => ?_
        obtain ⟨nx, ex, tx, ux, ox⟩ := hk1 x hx
        obtain ⟨ny, ey, ty, uy, oy⟩ := hk1 y hy
        have e' : (ent ops V F0 x).1 = (ent ops V F0 y).1 := e
        rw [ex, ey] at e'
        cases e'
        exact MPs.nodup x ((s2 x).1 hx).1 y ((s2 y).1 hy).1 _ _ _ _ _ ox oy
    have hle := Rn.le_add (ρ := ρ) mb am 0 0 0
    have st1 : Stp P base ρ0 h0 w0 (ρ.add (idOf (ν m.i)) am 0 0 0) h w' := R.st.late n1 n3 n2 mb h4 (by omega) (by omega) (fun k' hk' _ => wne k' hk') h6 wbl fun ρ' he hle' => by
      rw [s3]
      refine ⟨h3, _, by rw [hlen]; exact wam, (τ ++ [p]).map (ent ops V F0), mp2.mono hle', .inr ⟨hperm.map _, hkd⟩⟩
    refine ⟨M, V, ν, F, putN s (V m.i) (Ev.putD p.o.dst .u Fc), D, h, _, done, es, live, t, n.down R.down, R.de, fun e he => plus_le (R.dl e he), R.el, R.ql, hL2, ?_, R.rl, R.rd, ?_, fun x hx hop => ?_, by rw [put_defers]; exact R.dr.mono hle, st1, R.tl, R.hx, fun m' hm' hmm' hl' hc' => ?_⟩
    · refine R.ai.world (fun i hi => plus_le hi) fun q hq hbq hkq c1 c2 hn => ?_
      have hne : q ≠ m := fun e => by subst e; exact c1 hmap hc
      have : idOf (ν q.i) ≠ idOf (ν m.i) := fun e => hne (R.ai.inj q hq m hm hbq (R.lm _ hLm) hkq hmap.make (idOf_inj (R.ai.nu q hq hbq hkq).2.2 n3 e))
      simp [Rn.add, this]; exact hn
    · refine FR.set ((R.fr.mono hle).putD hok (by simp only [RV])) hs5 ?_
      rw [heval, h2, mv]
      simp only [RV]
      exact ⟨am, by simp [Rn.add], rfl⟩
    · by_cases e : x = s
      · subst e
        rw [getN_putN_self]
        unfold cur
        rw [S.dst hm hds]
        simp only [hLmp, cond_true]
      · rw [getN_putN_ne hx hs5 _ _ (Ne.symm e)]
        exact hfc x hx e hop
    · by_cases e : m' = m
      · subst e; exact absurd hc hc'
      · exact (hother m' hm' hmm' e hl' hc').elim
  · refine ⟨M, V, ν, F, Ev.putD p.o.dst .u Fc, D, h, ρ, done, es, live, t, n.down R.down, R.de, fun e he => plus_le (R.dl e he), R.el, R.ql, hL2, R.ai.world (fun i hi => plus_le hi) fun q hq hbq hkq c1 c2 hn => hn, R.rl, R.rd, R.fr.putD hok (by simp only [RV]), fun x hx hop => ?_, by rw [put_defers]; exact R.dr,
      R.st.touch h4 (by omega) (fun k' hk' _ => wne k' hk') h6 wbl, R.tl, R.hx, fun m' hm' hmm' hl' hc' => ?_⟩
    · have e : x ≠ s := fun e => by subst e; exact hc (hop m hm hmap hds hLmp)
      exact hfc x hx e hop
    · by_cases e : m' = m
      · subst e
        refine ⟨s, am, _, hds, by rw [heval]; exact h2, h3, h4, by omega, h6, ?_, τ ++ [p], nd2, mem2, mp2⟩
        rw [wam]; simp
      · exact (hother m' hm' hmm' e hl' hc').elim
end
end Go.Ev

/- Part of the proof of CompileForCardSaid. -/
import Derived.Test.YthhgndcpeeifeaaGreatDoorE09
set_option linter.unusedVariables false
set_option linter.unusedSimpArgs false
set_option linter.unusedSectionVars false
set_option linter.constructorNameAsVariable false
namespace Go.Ev
open Go Go.RowKit
variable {r : DV}
def IsMap (m : Row) : Prop := ∃ t, m.o.op = .makeMap t none
section
variable {P : Program} {ops : Array Oper}
/-- A filling of a map. -/
def Ins (m r : Row) : Prop := ∃ s t n v, m.o.dst = some s ∧ r.o.op = .insert t (.tmp s) (.const (.int .i64 n)) v
theorem Ins.kd {m r : Row} (h : Ins m r) : kdOp P r.o.op = .ins := by
  obtain ⟨s, t, n, v, _, h⟩ := h
  rw [h]; rfl
/-- What is known of a map that is made. -/
structure MapP (P : Program) (ops : Array Oper) (m : Row) (s : Nat) : Prop where
  ins : ∀ r ∈ RS ops, Ins m r → r.o.guard = none ∧ hasBit r.anc m.i = true ∧ ∃ t n v, r.o.op = .insert t (.tmp s) (.const (.int .i64 n)) v ∧ s ∉ tmpsO v ∧ ∃ kt e kd, P.underlying t = some (.map kt e) ∧ P.underlying kt = some (.int kd)
  nodup : ∀ r ∈ RS ops, ∀ r' ∈ RS ops, ∀ t n v t' v', r.o.op = .insert t (.tmp s) (.const (.int .i64 n)) v → r'.o.op = .insert t' (.tmp s) (.const (.int .i64 n)) v' → r = r'
  oth : ∀ r ∈ RS ops, ¬ Ins m r → s ∈ looksO ops r.o → ∀ q ∈ RS ops, Ins m q → hasBit r.anc q.i = true
theorem DS.form_make (S : DS P ops) {m : Row} (hm : m ∈ RS ops) (hk : kdOp P m.o.op = .make) : m.o.guard = none ∧ ∃ s, m.o.dst = some s := by
  have := S.form m hm
  unfold formOk at this
  rw [hk] at this
  simp only [Bool.and_eq_true, Option.isNone_iff_eq_none] at this
  exact ⟨this.2, Option.isSome_iff_exists.1 this.1⟩
theorem DS.form_q (S : DS P ops) {m : Row} (hm : m ∈ RS ops) (hk : kdOp P m.o.op = .pure ∨ kdOp P m.o.op = .read) : ∃ s, m.o.dst = some s := by
  have := S.form m hm
  unfold formOk at this
  rcases hk with hk | hk <;> (rw [hk] at this; exact Option.isSome_iff_exists.1 this)
theorem IsMap.make {m : Row} (h : IsMap m) : kdOp P m.o.op = .make := by
  obtain ⟨t, h⟩ := h
  rw [h]; rfl
theorem DS.mapP (S : DS P ops) {m : Row} (hm : m ∈ RS ops) {s : Nat} (hd : m.o.dst = some s) : MapP P ops m s := by
  rcases S.litP with hno | ⟨s0, q0, LP⟩
  · refine ⟨fun r hr hi => absurd (hi.kd (P := P)) (hno r hr), fun r hr r' hr' t n v t' v' e e' => absurd (by rw [e]; rfl) (hno r hr), fun r hr _ _ q hq hi => absurd (hi.kd (P := P)) (hno q hq)⟩
  · by_cases hs : s = s0
    · subst hs
      have : m = q0 := by
        have h1 := S.dst hm hd
        rw [S.dst LP.q LP.qd] at h1
        exact (Option.some.inj h1).symm
      subst this
      refine ⟨fun r hr hi => LP.ins r hr hi.kd, LP.nodup, fun r hr hi hl q hq hqi => LP.oth r hr (fun hk => hi ?_) hl q hq hqi.kd⟩
      obtain ⟨_, _, t, n, v, e, _⟩ := LP.ins r hr hk
      exact ⟨s, t, n, v, hd, e⟩
    · have hno : ∀ r ∈ RS ops, ¬ Ins m r := by
        rintro r hr ⟨s', t, n, v, h1, h2⟩
        rw [hd] at h1; cases h1
        obtain ⟨_, _, t', n', v', e, _⟩ := LP.ins r hr (by rw [h2]; rfl)
        rw [h2] at e
        cases e
        exact hs rfl
      refine ⟨fun r hr hi => absurd hi (hno r hr), fun r hr r' hr' t n v t' v' e e' => absurd ⟨s, t, n, v, hd, e⟩ (hno r hr), fun r hr _ _ q hq hi => absurd hi (hno q hq)⟩
theorem DS.ins_map (S : DS P ops) {r : Row} (hr : r ∈ RS ops) (hk : kdOp P r.o.op = .ins) : ∃ m ∈ RS ops, IsMap m ∧ Ins m r := by
  rcases S.litP with hno | ⟨s0, q0, LP⟩
  · exact absurd hk (hno r hr)
  · obtain ⟨_, _, t, n, v, e, _⟩ := LP.ins r hr hk
    exact ⟨q0, LP.q, LP.qo, s0, t, n, v, LP.qd, e⟩
theorem DS.ins_uniq (S : DS P ops) {m m' r : Row} (hm : m ∈ RS ops) (hm' : m' ∈ RS ops) (h : Ins m r) (h' : Ins m' r) : m = m' := by
  obtain ⟨s, t, n, v, h1, h2⟩ := h
  obtain ⟨s', t', n', v', h1', h2'⟩ := h'
  rw [h2] at h2'
  cases h2'
  have := S.dst hm h1
  rw [S.dst hm' h1'] at this
  exact (Option.some.inj this).symm
variable (ops) in
/-- Made, and wholly filled. -/
def Cmp (L : Nat → Bool) (m : Row) : Prop := L m.i = true ∧ ∀ r ∈ RS ops, Ins m r → L r.i = true
variable (ops) in
noncomputable def opV (V : Nat → AV) (F0 : Fr) (r : Row) : Operand → AV
  | .tmp t => ov ops V F0 r t
  | u => opA u F0
variable (ops) in
/-- What a filling puts in. -/
noncomputable def ent (V : Nat → AV) (F0 : Fr) (r : Row) : AV × AV := match insOf r.o.op with
  | some (_, n, v) => (.i .i64 n, opV ops V F0 r v)
  | none => (.u, .u)
theorem opV_eq {V : Nat → AV} {F0 F : Fr} {r : Row} {v : Operand} (h : ∀ t ∈ tmpsO v, getN t F = ov ops V F0 r t) : opA v F = opV ops V F0 r v := by
  cases v <;> first | rfl | exact h _ (by simp [tmpsO])
theorem ent_upd {V : Nat → AV} {F0 : Fr} {r : Row} {i : Nat} (v : AV) (h : hasBit r.anc i = false) : ent ops (updV V i v) F0 r = ent ops V F0 r := by
  unfold ent
  cases insOf r.o.op with
  | none => rfl
  | some x =>
    obtain ⟨s, n, u⟩ := x
    simp only []
    congr 1
    cases u <;> first | rfl | exact ov_upd v h _
variable {base N : Nat} {cl : Cl}
variable (P ops cl) in
/-- What an operation yields, wherever it finds what it must find. -/
def PQ (F0 : Fr) (V : Nat → AV) (r : Row) (h : Hp) (v : AV) : Prop := ∀ F, (∀ t ∈ looksO ops r.o, getN t F = ov ops V F0 r t) → QStep P cl ops r.o F h v
theorem PQ.upd {F0 : Fr} {V : Nat → AV} {r : Row} {h : Hp} {v : AV} {i : Nat} {x : AV} (hi : hasBit r.anc i = false) (q : PQ P ops cl F0 V r h v) : PQ P ops cl F0 (updV V i x) r h v := fun F ag => q F fun t ht => by rw [ag t ht, ov_upd x hi]
/-- Memory that is made, and not yet in the world. -/
structure PM (P : Program) (base N : Nat) (ops : Array Oper) (F0 : Fr) (ρ : Rn) (V : Nat → AV) (ν : Nat → Nat) (h : Hp) (r : Row) : Prop where
  b : ρ.blk (idOf (ν r.i)) = none
  x : ∃ e l vf, V r.i = vf (idOf (ν r.i)) ∧ l.length ≤ 4096 ∧ hat (idOf (ν r.i)) h.t = .c true e l.length (CT.lay l 0 CT.z) ∧ ∀ F, (∀ t ∈ looksO ops r.o, getN t F = ov ops V F0 r t) → MkR P base N ops r.o F e l vf
/-- A map that is made, and not yet in the world. -/
structure MP' (ops : Array Oper) (F0 : Fr) (ρ : Rn) (M : Nat) (V : Nat → AV) (ν : Nat → Nat) (h : Hp) (m : Row) : Prop where
  b : ρ.blk (idOf (ν m.i)) = none
  v : V m.i = .m (idOf (ν m.i))
  x : ∃ σ : List Row, σ.Nodup ∧ (∀ r, r ∈ σ ↔ r ∈ RS ops ∧ Ins m r ∧ hasBit M r.i = true) ∧ hat (idOf (ν m.i)) h.t = .m (σ.map (ent ops V F0)) σ.length
/-- What has been done in the evaluator. -/
structure AI (P : Program) (base N : Nat) (ops : Array Oper) (cl : Cl) (F0 : Fr) (n0 : Nat) (L : Nat → Bool) (ρ : Rn) (M : Nat) (V : Nat → AV) (ν : Nat → Nat) (F : Fr) (h : Hp) : Prop where
  fr : ∀ t, t < 512 → getN t F = cur ops V F0 (hasBit M) t
  xd : ∀ r ∈ RS ops, hasBit M r.i = true → ∀ q, hasBit r.anc q = true → hasBit M q = true
  pp : ∀ r ∈ RS ops, hasBit M r.i = true → kdOp P r.o.op = .pure → ∀ h', PQ P ops cl F0 V r h' (V r.i)
  pr : ∀ r ∈ RS ops, hasBit M r.i = true → kdOp P r.o.op = .read → ∃ h', PQ P ops cl F0 V r h' (V r.i)
  iv : ∀ r ∈ RS ops, hasBit M r.i = true → kdOp P r.o.op = .ins → V r.i = .u
  nu : ∀ r ∈ RS ops, hasBit M r.i = true → kdOp P r.o.op = .make → n0 ≤ ν r.i ∧ ν r.i < h.nx ∧ ν r.i < 32768
  inj : ∀ r ∈ RS ops, ∀ r' ∈ RS ops, hasBit M r.i = true → hasBit M r'.i = true → kdOp P r.o.op = .make → kdOp P r'.o.op = .make → ν r.i = ν r'.i → r = r'
  pm : ∀ r ∈ RS ops, hasBit M r.i = true → kdOp P r.o.op = .make → ¬ IsMap r → L r.i = false → PM P base N ops F0 ρ V ν h r
  mp : ∀ m ∈ RS ops, IsMap m → hasBit M m.i = true → ¬ Cmp ops L m → MP' ops F0 ρ M V ν h m
theorem AI.nanc {F0 : Fr} {n0 : Nat} {L : Nat → Bool} {ρ : Rn} {M : Nat} {V : Nat → AV} {ν : Nat → Nat} {F : Fr} {h : Hp} (A : AI P base N ops cl F0 n0 L ρ M V ν F h) {r : Row} (hr : r ∈ RS ops) (hb : hasBit M r.i = true) {i : Nat} (hi : hasBit M i = false) : hasBit r.anc i = false := by
  cases hh : hasBit r.anc i with
  | false => rfl
  | true => rw [A.xd r hr hb i hh] at hi; cases hi
/-- One more has been done. -/
theorem AI.put (S : DS P ops) {F0 : Fr} {n0 : Nat} {L : Nat → Bool} {ρ : Rn} {M : Nat} {V : Nat → AV} {ν : Nat → Nat} {F : Fr} {h : Hp} (A : AI P base N ops cl F0 n0 L ρ M V ν F h) {r : Row} (hr : r ∈ RS ops) (hok : okOp P N ops r.o = true)
    (hM : hasBit M r.i = false) (hsub : ∀ q, hasBit r.anc q = true → hasBit M q = true) {v : AV} {h' : Hp} {ν' : Nat → Nat} (hnx : h.nx ≤ h'.nx) (hν : ∀ p ∈ RS ops, p ≠ r → ν' p.i = ν p.i)
    (hiv : kdOp P r.o.op = .ins → v = .u) (hp : kdOp P r.o.op = .pure → ∀ h', PQ P ops cl F0 V r h' v) (hrd : kdOp P r.o.op = .read → ∃ h', PQ P ops cl F0 V r h' v)
    (hmk : kdOp P r.o.op = .make → n0 ≤ ν' r.i ∧ h.nx ≤ ν' r.i ∧ ν' r.i < h'.nx ∧ ν' r.i < 32768 ∧ (¬ IsMap r → PM P base N ops F0 ρ (updV V r.i v) ν' h' r))
    (hhat : ∀ p ∈ RS ops, hasBit M p.i = true → kdOp P p.o.op = .make → ¬ IsMap p → L p.i = false → hat (idOf (ν p.i)) h'.t = hat (idOf (ν p.i)) h.t)
    (hmp : ∀ m ∈ RS ops, IsMap m → (hasBit M m.i = true ∨ m = r) → ¬ Cmp ops L m → MP' ops F0 ρ (Nat.lor M (Nat.pow 2 r.i)) (updV V r.i v) ν' h' m) :
    AI P base N ops cl F0 n0 L ρ (Nat.lor M (Nat.pow 2 r.i)) (updV V r.i v) ν' (putD r.o.dst v F) h' := by
  have bit : ∀ q, hasBit (Nat.lor M (Nat.pow 2 r.i)) q = (decide (q = r.i) || hasBit M q) := fun q => by rw [hasBit_or, hasBit_pow, Bool.or_comm]; congr 1; exact decide_eq_decide.2 ⟨Eq.symm, Eq.symm⟩
  have self : hasBit r.anc r.i = false := by
    cases hh : hasBit r.anc r.i with
    | false => rfl
    | true => rw [hsub _ hh] at hM; cases hM
  have old : ∀ p ∈ RS ops, hasBit (Nat.lor M (Nat.pow 2 r.i)) p.i = true → p = r ∨ (p ≠ r ∧ hasBit M p.i = true) := fun p hpp hb => by
    rw [bit, Bool.or_eq_true, decide_eq_true_eq] at hb
    by_cases e : p = r
    · exact .inl e
    · rcases hb with hb | hb
      · exact absurd (rs_eq hpp hr hb) e
      · exact .inr ⟨e, hb⟩
  have hne : ∀ p ∈ RS ops, p ≠ r → updV V r.i v p.i = V p.i := fun p hpp e => by
    have : p.i ≠ r.i := fun e2 => e (rs_eq hpp hr e2)
    simp [updV, this]
  have hself : updV V r.i v r.i = v := by simp [updV]
  have dlt : ∀ d, r.o.dst = some d → d < 512 := fun d hd => by
    simp only [okOp, Bool.and_eq_true] at hok
    have := hok.1.2
    rw [hd] at this
    simp only [Bool.and_eq_true] at this
    simpa [Nat.blt_eq] using this.2
  refine ⟨fun t ht => S.cur_put hr bit hM dlt ht (A.fr t ht), ?_, ?_, ?_, ?_, ?_, ?_, ?_, fun m hm hmm hb hc => hmp m hm hmm ((old m hm hb).symm.imp (·.2) id) hc⟩
  · intro p hpp hb q hq
    rw [bit, Bool.or_eq_true]
    rcases old p hpp hb with rfl | ⟨_, hb⟩
    · exact .inr (hsub q hq)
    · exact .inr (A.xd p hpp hb q hq)
  · intro p hpp hb hk h1
    rcases old p hpp hb with rfl | ⟨e, hb⟩
    · rw [hself]; exact (hp hk h1).upd self
    · rw [hne p hpp e]; exact (A.pp p hpp hb hk h1).upd (A.nanc hpp hb hM)
  · intro p hpp hb hk
    rcases old p hpp hb with rfl | ⟨e, hb⟩
    · obtain ⟨h1, q⟩ := hrd hk
      exact ⟨h1, by rw [hself]; exact q.upd self⟩
    · obtain ⟨h1, q⟩ := A.pr p hpp hb hk
      exact ⟨h1, by rw [hne p hpp e]; exact q.upd (A.nanc hpp hb hM)⟩
  · intro p hpp hb hk
    rcases old p hpp hb with rfl | ⟨e, hb⟩
    · rw [hself]; exact hiv hk
    · rw [hne p hpp e]; exact A.iv p hpp hb hk
  · intro p hpp hb hk
    rcases old p hpp hb with rfl | ⟨e, hb⟩
    · obtain ⟨a1, a2, a3, a4, _⟩ := hmk hk
      exact ⟨a1, a3, a4⟩
    · rw [hν p hpp e]
      obtain ⟨a1, a2, a3⟩ := A.nu p hpp hb hk
      exact ⟨a1, by omega, a3⟩
  · intro p hpp p' hpp' hb hb' hk hk' he
    rcases old p hpp hb with rfl | ⟨e, hb2⟩
    · rcases old p' hpp' hb' with rfl | ⟨e', hb2'⟩
      · rfl
      · rw [hν p' hpp' e'] at he
        obtain ⟨_, a2, _⟩ := hmk hk
        obtain ⟨_, b2, _⟩ := A.nu p' hpp' hb2' hk'
        omega
    · rcases old p' hpp' hb' with rfl | ⟨e', hb2'⟩
      · rw [hν p hpp e] at he
        obtain ⟨_, a2, _⟩ := hmk hk'
        obtain ⟨_, b2, _⟩ := A.nu p hpp hb2 hk
        omega
      · rw [hν p hpp e, hν p' hpp' e'] at he
        exact A.inj p hpp p' hpp' hb2 hb2' hk hk' he
  · intro p hpp hb hk hmap hl
    rcases old p hpp hb with rfl | ⟨e, hb⟩
    · exact (hmk hk).2.2.2.2 hmap
    · obtain ⟨b, e1, l, vf, x1, x2, x3, x4⟩ := A.pm p hpp hb hk hmap hl
      refine ⟨by rw [hν p hpp e]; exact b, e1, l, vf, by rw [hne p hpp e, hν p hpp e]; exact x1, x2, by rw [hν p hpp e, hhat p hpp hb hk hmap hl]; exact x3, fun F1 ag => x4 F1 fun t ht => by rw [ag t ht, ov_upd v (A.nanc hpp hb hM)]⟩
end
end Go.Ev
namespace Go.Ev
open Go Go.RowKit
variable {r : DV}
section
variable {P : Program} {base N : Nat} {cl : Cl} {ops : Array Oper} {o : Oper}
/-- The evaluator goes on; the world does not. -/
theorem Stp.abs {ρ0 ρ : Rn} {h0 h h' : Hp} {w0 w : World} (s : Stp P base ρ0 h0 w0 ρ h w) (hnx : h.nx ≤ h'.nx) (hm : ∀ b, ρ.blk b ≠ none → hat b h'.t = hat b h.t) (ho : ∀ n, n < h0.nx → n < 32768 → hat (idOf n) h'.t = hat (idOf n) h.t) : Stp P base ρ0 h0 w0 ρ h' w := by
  have ne : ∀ {b : Id} {a : Nat}, ρ.blk b = some a → ρ.blk b ≠ none := fun e1 e2 => by rw [e1] at e2; cases e2
  have own : ∀ {b : Id} {a : Nat}, ρ.blk b = some a → Own h' b → Own h b := fun e1 k => by unfold Own at k ⊢; rw [← hm _ (ne e1)]; exact k
  have live : ∀ {b : Id} {a : Nat}, ρ.blk b = some a → Live h' b → Live h b := fun e1 k => by unfold Live at k ⊢; rw [← hm _ (ne e1)]; exact k
  refine ⟨s.le, ⟨s.sim.bs, s.sim.lt, fun b a hb => by rw [hm b (ne hb)]; exact s.sim.ob b a hb, fun b c a hb hc lb lc => s.sim.inj b c a hb hc (own hb lb) (live hc lc), fun n hn h2 => s.sim.nx n (by omega) h2, s.sim.gl, s.sim.kn, s.sim.tb, s.sim.ct, fun c a' hc ho => s.sim.oz c a' hc (ho.imp (own hc) id)⟩, s.bl, Nat.le_trans s.nx hnx, s.keep,
    fun n h1 h2 h3 h4 => by rw [ho n h1 h2]; exact s.old n h1 h2 h3 h4, s.fresh, fun b a hb lb => s.img b a hb (own hb lb), fun b a hb lb => s.lv b a hb (live hb lb)⟩
theorem Stp.absPut {ρ0 ρ : Rn} {h0 h : Hp} {w0 w : World} (s : Stp P base ρ0 h0 w0 ρ h w) {n nx : Nat} (h1 : h0.nx ≤ n) (h2 : n < 32768) (hb : ρ.blk (idOf n) = none) (ob : AObj) (hnx : h.nx ≤ nx) : Stp P base ρ0 h0 w0 ρ ⟨hput (idOf n) ob h.t, nx⟩ w :=
  s.abs hnx (fun b hne => hat_hput_ne _ _ fun e => hne (e ▸ hb)) fun n' h1' h2' => hat_hput_ne _ _ fun e => by have := idOf_inj h2 h2' e; omega
/-- A filling, as the evaluator does it. -/
theorem ins_step (hcl : ClOk P base cl) {t s : Nat} {n : Int} {v : Operand} {kt e : TypeId} {kd : IntKind} (ho : o.op = .insert t (.tmp s) (.const (.int .i64 n)) v) (hg : o.guard = none) (ht : P.underlying t = some (.map kt e)) (hkt : P.underlying kt = some (.int kd))
    {k : KR} {F : Fr} {D : List Dfr} {h : Hp} {b : Id} {es : List (AV × AV)} {c : Nat} (hs : getN s F = .m b) (hb : hat b h.t = .m es c) (hes : ∀ p ∈ es, ∃ n', p.1 = .i .i64 n' ∧ n' ≠ n) (hx : oiStep cl (trOp P ops o) k F D h = .ok r) :
    k (putD o.dst .u F) D ⟨hput b (.m (es ++ [(.i .i64 n, opA v F)]) (c + 1)) h.t, h.nx⟩ = .ok r := by
  have hk : Ev.keyOf P kt = some (eqKi, false) := by unfold Ev.keyOf; rw [hkt]
  have hdf : dfOf o.op = none := by rw [ho]; rfl
  have e1 : ∀ (α : Type) (k : X → α), trX P o.op k = k (xSelf eqKi false (opA (.const (.int .i64 n))) (xMu eqKi (opA (.tmp s)) (opA (.const (.int .i64 n))) (opA v))) := fun α k => by
    rw [ho]; simp only [trX, opF_eq, ht, keyF_eq, hk]
  have main : ∀ {r : DV} (K : AV → Hp → Res), xSelf eqKi false (opA (.const (.int .i64 n))) (xMu eqKi (opA (.tmp s)) (opA (.const (.int .i64 n))) (opA v)) cl F h K = .ok r → K .u ⟨hput b (.m (es ++ [(.i .i64 n, opA v F)]) (c + 1)) h.t, h.nx⟩ = .ok r := fun {r} K hK => by
    obtain ⟨_, hK⟩ := self_ok hK
    have hm : opA (.tmp s) F = .m b := hs
    have hkey : opA (.const (.int .i64 n)) F = .i .i64 n := rfl
    simp only [xMu, hm, hkey, esOf, hb] at hK
    rcases find_ok es hK with ⟨h1, _⟩ | ⟨j, a', v', _, h2, h3, _⟩
    · simpa only [natF_eq] using h1
    · obtain ⟨n', g1, g2⟩ := hes _ (List.mem_of_getElem? h2)
      simp only at g1
      rw [g1] at h3
      have h3' : cond (Nat.beq (kn .i64) (kn .i64)) (some (ieq n n')) none = some true := h3
      rw [show Nat.beq (kn .i64) (kn .i64) = true from rfl, cond_true, ieq_eq] at h3'
      simp at h3'
      exact absurd h3'.symm g2
  unfold trOp at hx
  simp only [hdf, hg] at hx
  cases hd : o.dst with
  | none => simp only [hd, e1] at hx; exact main _ hx
  | some d => simp only [hd, e1, slM_eq] at hx; exact main _ hx
/-- One quiet operation, done in the evaluator. -/
theorem stepA (S : DS P ops) (hcl : ClOk P base cl) {F0 : Fr} {L : Nat → Bool} {ρ0 ρ : Rn} {h0 h : Hp} {w0 w : World} {M : Nat} {V : Nat → AV} {ν : Nat → Nat} {F : Fr} (A : AI P base N ops cl F0 h0.nx L ρ M V ν F h) (st : Stp P base ρ0 h0 w0 ρ h w)
    (hL : ∀ i, L i = true → hasBit M i = true) {q : Row} (hq : q ∈ RS ops) (hok : okOp P N ops q.o = true) (hk : kdOp P q.o.op ≠ .eff) (hM : hasBit M q.i = false) (hsub : ∀ i, hasBit q.anc i = true → hasBit M i = true) {k : KR} {D : List Dfr} (hx : oiStep cl (trOp P ops q.o) k F D h = .ok r) :
    ∃ v ν' h', k (putD q.o.dst v F) D h' = .ok r ∧ AI P base N ops cl F0 h0.nx L ρ (Nat.lor M (Nat.pow 2 q.i)) (updV V q.i v) ν' (putD q.o.dst v F) h' ∧ Stp P base ρ0 h0 w0 ρ h' w ∧ (∀ b, ρ.blk b ≠ none → hat b h'.t = hat b h.t) ∧
      (kdOp P q.o.op ≠ .make → kdOp P q.o.op ≠ .ins → h' = h ∧ (kdOp P q.o.op = .read → PQ P ops cl F0 V q h v)) := by
  have ag0 : ∀ t ∈ looksO ops q.o, getN t F = ov ops V F0 q t := fun t ht => by
    rw [A.fr t (looks_lt hok t ht)]
    refine S.view hq hsub (fun p hp hb => ?_) ht
    cases hh : hasBit M p.i with
    | false => rfl
    | true => rw [A.xd p hp hh _ hb] at hM; cases hM
  have hLq : L q.i = false := by
    cases hh : L q.i with
    | false => rfl
    | true => rw [hL _ hh] at hM; cases hM
  have nq : ∀ p ∈ RS ops, hasBit M p.i = true → p ≠ q := fun p _ hb e => by subst e; rw [hb] at hM; cases hM
  have hV : ∀ p ∈ RS ops, hasBit M p.i = true → ∀ v, updV V q.i v p.i = V p.i := fun p hp hb v => by
    have : p.i ≠ q.i := fun e => nq p hp hb (rs_eq hp hq e)
    simp [updV, this]
  have bit : ∀ i, hasBit (Nat.lor M (Nat.pow 2 q.i)) i = true ↔ i = q.i ∨ hasBit M i = true := fun i => by rw [hasBit_or, hasBit_pow, Bool.or_eq_true, decide_eq_true_eq, Or.comm]; exact or_congr_left ⟨Eq.symm, Eq.symm⟩
  -- a map that was there already stays as it is
  have keepM : ∀ {v : AV} {h' : Hp} {ν' : Nat → Nat} (m : Row), m ∈ RS ops → IsMap m → hasBit M m.i = true → ¬ Cmp ops L m → ¬ Ins m q → ν' m.i = ν m.i → hat (idOf (ν m.i)) h'.t = hat (idOf (ν m.i)) h.t →
      MP' ops F0 ρ (Nat.lor M (Nat.pow 2 q.i)) (updV V q.i v) ν' h' m := fun {v h' ν'} m hm hmap hb hc hni hν hh => by
    obtain ⟨b, hv, σ, s1, s2, s3⟩ := A.mp m hm hmap hb hc
    refine ⟨by rw [hν]; exact b, by rw [hν, hV m hm hb]; exact hv, σ, s1, fun p => ?_, ?_⟩
    · rw [s2, bit]
      constructor
      · rintro ⟨a1, a2, a3⟩; exact ⟨a1, a2, .inr a3⟩
      · rintro ⟨a1, a2, a3 | a3⟩
        · exact absurd (rs_eq a1 hq a3 ▸ a2) hni
        · exact ⟨a1, a2, a3⟩
    · rw [hν, hh, s3]
      congr 1
      refine List.map_congr_left fun p hp => (ent_upd v ?_).symm
      obtain ⟨a1, _, a3⟩ := (s2 p).1 hp
      exact A.nanc a1 a3 hM
  have nins : kdOp P q.o.op ≠ .ins → ∀ m, ¬ Ins m q := fun hne m hi => hne hi.kd
  -- memory that is made
  have mkAll : ∀ (ob : AObj) (v : AV), kdOp P q.o.op = .make → h.nx < 32768 → (¬ IsMap q → PM P base N ops F0 ρ (updV V q.i v) (fun i => if i = q.i then h.nx else ν i) ⟨hput (idOf h.nx) ob h.t, Nat.succ h.nx⟩ q) →
      (IsMap q → ob = .m [] 0 ∧ v = .m (idOf h.nx)) →
      AI P base N ops cl F0 h0.nx L ρ (Nat.lor M (Nat.pow 2 q.i)) (updV V q.i v) (fun i => if i = q.i then h.nx else ν i) (putD q.o.dst v F) ⟨hput (idOf h.nx) ob h.t, Nat.succ h.nx⟩ ∧ Stp P base ρ0 h0 w0 ρ ⟨hput (idOf h.nx) ob h.t, Nat.succ h.nx⟩ w := fun ob v hmk hn hpm hmap => by
    have hb0 := st.sim.nx h.nx (Nat.le_refl _) hn
    have hatne : ∀ p ∈ RS ops, hasBit M p.i = true → kdOp P p.o.op = .make → hat (idOf (ν p.i)) (hput (idOf h.nx) ob h.t) = hat (idOf (ν p.i)) h.t := fun p hp hb hk' => by
      obtain ⟨_, a2, a3⟩ := A.nu p hp hb hk'
      exact hat_hput_ne _ _ fun e => by have := idOf_inj hn a3 e; omega
    refine ⟨A.put S hq hok hM hsub (Nat.le_succ _) (fun p hp e => if_neg fun e2 => e (rs_eq hp hq e2)) (fun e => by rw [hmk] at e; cases e) (fun e => by rw [hmk] at e; cases e) (fun e => by rw [hmk] at e; cases e) (fun _ => ⟨?_, ?_, ?_, ?_, hpm⟩) (fun p hp hb hk' _ _ => hatne p hp hb hk') fun m hm hmm hb hc => ?_, st.absPut st.nx hn hb0 ob (Nat.le_succ _)⟩
    · simp only [if_true]; exact st.nx
    · simp only [if_true]; exact Nat.le_refl _
    · simp only [if_true]; exact Nat.lt_succ_self _
    · simp only [if_true]; exact hn
    · by_cases e : m = q
      · subst e
        obtain ⟨rfl, rfl⟩ := hmap hmm
        refine ⟨by simp only [if_true]; exact hb0, by simp [updV], [], .nil, fun p => ⟨fun h => (by cases h), ?_⟩, by simp only [if_true]; exact hat_hput_self ..⟩
        rintro ⟨a1, a2, a3⟩
        have hd := a2
        obtain ⟨s, _, _, _, hds, _⟩ := hd
        obtain ⟨_, g2, _⟩ := (S.mapP hm hds).ins p a1 a2
        rcases (bit p.i).1 a3 with a3 | a3
        · have := rs_eq a1 hm a3
          subst this
          have := a2.kd (P := P)
          rw [hmk] at this; cases this
        · rw [A.xd p a1 a3 _ g2] at hM; cases hM
      · rcases hb with hb | hb
        · refine keepM m hm hmm hb hc (nins (by rw [hmk]; simp) m) (if_neg fun e2 => e (rs_eq hm hq e2)) (hatne m hm hb hmm.make)
        · exact absurd hb e
  cases hkd : kdOp P q.o.op with
  | eff => exact absurd hkd hk
  | no =>
    have := S.form q hq
    unfold formOk at this
    rw [hkd] at this
    cases this
  | pure =>
    obtain ⟨d, hd⟩ := S.form_q hq (.inl hkd)
    obtain ⟨v, q1, q2⟩ := quiet_step hcl hok (.inl hkd) hd hx
    refine ⟨v, ν, h, by have := q1 k D; rw [this] at hx; exact hx, ?_, st, fun _ _ => rfl, fun _ _ => ⟨rfl, fun e => by cases e⟩⟩
    exact A.put S hq hok hM hsub (Nat.le_refl _) (fun _ _ _ => rfl) (fun e => by rw [hkd] at e; cases e) (fun _ h1 F1 ag => (q2 hkd h1).dep hcl hok fun t ht => by rw [ag0 t ht, ag t ht]) (fun e => by rw [hkd] at e; cases e) (fun e => by rw [hkd] at e; cases e) (fun _ _ _ _ _ _ => rfl)
      fun m hm hmm hb hc => by
        rcases hb with hb | hb
        · exact keepM m hm hmm hb hc (nins (by rw [hkd]; simp) m) rfl rfl
        · subst hb; have := hmm.make (P := P); rw [hkd] at this; cases this
  | read =>
    obtain ⟨d, hd⟩ := S.form_q hq (.inr hkd)
    obtain ⟨v, q1, q2⟩ := quiet_step hcl hok (.inr hkd) hd hx
    have pq : PQ P ops cl F0 V q h v := fun F1 ag => q1.dep hcl hok fun t ht => by rw [ag0 t ht, ag t ht]
    refine ⟨v, ν, h, by have := q1 k D; rw [this] at hx; exact hx, ?_, st, fun _ _ => rfl, fun _ _ => ⟨rfl, fun _ => pq⟩⟩
    exact A.put S hq hok hM hsub (Nat.le_refl _) (fun _ _ _ => rfl) (fun e => by rw [hkd] at e; cases e) (fun e => by rw [hkd] at e; cases e) (fun _ => ⟨h, pq⟩) (fun e => by rw [hkd] at e; cases e) (fun _ _ _ _ _ _ => rfl)
      fun m hm hmm hb hc => by
        rcases hb with hb | hb
        · exact keepM m hm hmm hb hc (nins (by rw [hkd]; simp) m) rfl rfl
        · subst hb; have := hmm.make (P := P); rw [hkd] at this; cases this
  | make =>
    obtain ⟨hg, d, hd⟩ := S.form_make hq hkd
    rcases mk_step hok hkd hg hd hx with ⟨e, l, vf, m1, m2, m3⟩ | ⟨⟨t, m1⟩, m2⟩
    · obtain ⟨c1, c2, c3⟩ := newC_ok m2
      obtain ⟨a1, a2⟩ := mkAll (.c true e l.length (CT.lay l 0 CT.z)) (vf (idOf h.nx)) hkd c2 (fun _ => ⟨by simp only [if_true]; exact st.sim.nx h.nx (Nat.le_refl _) c2, e, l, vf, by simp [updV], c1, by simp only [if_true]; exact hat_hput_self .., fun F1 ag F2 ag2 => m1 F2 fun t ht => by
        rw [← ag2 t ht, ag t ht, ov_upd _ (by
          cases hh : hasBit q.anc q.i with
          | false => rfl
          | true => rw [hsub _ hh] at hM; cases hM), ag0 t ht]⟩) fun hm => absurd hm m3
      exact ⟨_, _, _, by rw [hd]; exact c3, a1, a2, fun b hb => hat_hput_ne _ _ fun e => hb (e ▸ st.sim.nx h.nx (Nat.le_refl _) c2), fun e => absurd rfl e⟩
    · obtain ⟨c2, c3⟩ := hpNew_ok m2
      obtain ⟨a1, a2⟩ := mkAll (.m [] 0) (.m (idOf h.nx)) hkd c2 (fun hn => absurd ⟨t, m1⟩ hn) fun _ => ⟨rfl, rfl⟩
      exact ⟨_, _, _, by rw [hd]; exact c3, a1, a2, fun b hb => hat_hput_ne _ _ fun e => hb (e ▸ st.sim.nx h.nx (Nat.le_refl _) c2), fun e => absurd rfl e⟩
  | ins =>
    obtain ⟨m, hm, hmap, hi⟩ := S.ins_map hq hkd
    have hi2 := hi
    obtain ⟨s, _, _, _, hds, _⟩ := hi2
    have MPs := S.mapP hm hds
    obtain ⟨hg, g2, t, n, u, ho, hu, kt, e, kd, ht, hkt⟩ := MPs.ins q hq hi
    have hbm : hasBit M m.i = true := hsub _ g2
    have hnc : ¬ Cmp ops L m := fun hc => by rw [hc.2 q hq hi] at hLq; cases hLq
    obtain ⟨b, hv, σ, s1, s2, s3⟩ := A.mp m hm hmap hbm hnc
    obtain ⟨n1, n2, n3⟩ := A.nu m hm hbm hmap.make
    have hs512 : s < 512 := looks_lt hok s (by unfold looksO; rw [ho]; simp [Op.operands, tmpsO])
    have hFs : getN s F = .m (idOf (ν m.i)) := by
      rw [A.fr s hs512]
      unfold cur
      rw [S.dst hm hds]
      simp only [hbm, cond_true, hv]
    have hes : ∀ p ∈ σ.map (ent ops V F0), ∃ n', p.1 = .i .i64 n' ∧ n' ≠ n := by
      intro p hp
      obtain ⟨p', hp', rfl⟩ := List.mem_map.1 hp
      obtain ⟨a1, a2, a3⟩ := (s2 p').1 hp'
      obtain ⟨_, _, t', n', u', ho', _⟩ := MPs.ins p' a1 a2
      refine ⟨n', by unfold ent; rw [ho']; rfl, fun e => ?_⟩
      subst e
      have := MPs.nodup p' a1 q hq _ _ _ _ _ ho' ho
      subst this
      rw [a3] at hM; cases hM
    have hk2 := ins_step hcl ho hg ht hkt hFs s3 hes hx
    have hent : ent ops (updV V q.i .u) F0 q = (.i .i64 n, opA u F) := by
      rw [ent_upd _ (by
        cases hh : hasBit q.anc q.i with
        | false => rfl
        | true => rw [hsub _ hh] at hM; cases hM)]
      unfold ent
      rw [ho]
      simp only [insOf]
      congr 1
      exact (opV_eq fun t ht => ag0 t (by unfold looksO; exact List.mem_append_left _ (List.mem_flatMap.2 ⟨u, by rw [ho]; simp [Op.operands], ht⟩))).symm
    refine ⟨.u, ν, _, hk2, ?_, st.absPut n1 n3 b _ (Nat.le_refl _), fun b' hb' => hat_hput_ne _ _ fun e => hb' (e ▸ b), fun _ e => absurd rfl e⟩
    refine A.put S hq hok hM hsub (Nat.le_refl _) (fun _ _ _ => rfl) (fun _ => rfl) (fun e => by rw [hkd] at e; cases e) (fun e => by rw [hkd] at e; cases e) (fun e => by rw [hkd] at e; cases e) (fun p hp hb hk' hnm _ => ?_) fun m' hm' hmm' hb' hc' => ?_
    · obtain ⟨_, _, p3⟩ := A.nu p hp hb hk'
      refine hat_hput_ne _ _ fun e => ?_
      have := A.inj m hm p hp hbm hb hmap.make hk' (idOf_inj n3 p3 e)
      subst this
      exact hnm hmap
    · rcases hb' with hb' | hb'
      · by_cases em : m' = m
        · subst em
          refine ⟨b, by rw [hV _ hm hbm]; exact hv, σ ++ [q], ?_, fun p => ?_, ?_⟩
          · rw [List.nodup_append]
            refine ⟨s1, by simp, ?_⟩
            intro p hp y hy e
            simp at hy
            subst e; subst hy
            rw [((s2 _).1 hp).2.2] at hM; cases hM
          · rw [List.mem_append, s2, bit, List.mem_singleton]
            constructor
            · rintro (⟨a1, a2, a3⟩ | rfl)
              · exact ⟨a1, a2, .inr a3⟩
              · exact ⟨hq, hi, .inl rfl⟩
            · rintro ⟨a1, a2, a3 | a3⟩
              · exact .inr (rs_eq a1 hq a3)
              · exact .inl ⟨a1, a2, a3⟩
          · rw [show hat (idOf (ν m'.i)) (Hp.mk (hput (idOf (ν m'.i)) _ h.t) h.nx).t = _ from hat_hput_self ..]
            rw [List.map_append, List.map_singleton, hent, List.length_append]
            congr 2
            exact List.map_congr_left fun p hp => (ent_upd _ (A.nanc ((s2 p).1 hp).1 ((s2 p).1 hp).2.2 hM)).symm
        · refine keepM m' hm' hmm' hb' hc' (fun hi' => em (S.ins_uniq hm' hm hi' hi)) rfl (hat_hput_ne _ _ fun e => em ?_)
          exact (A.inj m hm m' hm' hbm hb' hmap.make hmm'.make (idOf_inj n3 (A.nu m' hm' hb' hmm'.make).2.2 e)).symm
      · subst hb'; have := hmm'.make (P := P); rw [hkd] at this; cases this
end
end Go.Ev
namespace Go.Ev
open Go Go.RowKit
variable {r : DV}
section
variable {P : Program} {base N : Nat} {cl : Cl} {ops : Array Oper} {o : Oper}
theorem ov_congr {V V' : Nat → AV} {F0 : Fr} {r : Row} (h : ∀ i, hasBit r.anc i = true → V' i = V i) (t : Nat) : ov ops V' F0 r t = ov ops V F0 r t := by
  unfold ov
  cases wrOf (RS ops) t with
  | none => rfl
  | some q =>
    simp only []
    cases hb : hasBit r.anc q.i with
    | false => rfl
    | true => rw [h _ hb]
theorem PQ.congr {V V' : Nat → AV} {F0 : Fr} {r : Row} (hV : ∀ i, hasBit r.anc i = true → V' i = V i) {h : Hp} {v : AV} (q : PQ P ops cl F0 V r h v) : PQ P ops cl F0 V' r h v := fun F ag => q F fun t ht => by rw [ag t ht, ov_congr hV]
section
variable (S : DS P ops) (hcl : ClOk P base cl) (hokA : ∀ q ∈ RS ops, okOp P N ops q.o = true) {F0 : Fr} {L : Nat → Bool} {ρ0 ρ : Rn} {h0 : Hp} {w0 w : World}
include S hcl hokA
theorem blkA {k : KR} {T : List OI} {D : List Dfr} : ∀ (q : List Row) (M m1 : Nat) (V : Nat → AV) (ν : Nat → Nat) (F : Fr) (h : Hp), runM q M = some m1 → (∀ p ∈ q, p ∈ RS ops ∧ kdOp P p.o.op ≠ .eff) → AI P base N ops cl F0 h0.nx L ρ M V ν F h → Stp P base ρ0 h0 w0 ρ h w →
    (∀ i, L i = true → hasBit M i = true) → evOps cl k (q.map (fun p => trOp P ops p.o) ++ T) F D h = .ok r →
    ∃ V' ν' F' h', evOps cl k T F' D h' = .ok r ∧ AI P base N ops cl F0 h0.nx L ρ m1 V' ν' F' h' ∧ Stp P base ρ0 h0 w0 ρ h' w ∧ (∀ i, hasBit m1 i = true ↔ hasBit M i = true ∨ ∃ p ∈ q, p.i = i) ∧ (∀ i, hasBit M i = true → V' i = V i) ∧ (∀ b, ρ.blk b ≠ none → hat b h'.t = hat b h.t) ∧
      ((∀ p ∈ q, kdOp P p.o.op ≠ .make ∧ kdOp P p.o.op ≠ .ins) → h' = h ∧ ∀ p ∈ q, kdOp P p.o.op = .read → PQ P ops cl F0 V' p h (V' p.i))
  | [], M, m1, V, ν, F, h, hr, _, A, st, _, hx => by
    cases hr
    exact ⟨V, ν, F, h, hx, A, st, fun i => by simp, fun _ _ => rfl, fun _ _ => rfl, fun _ => ⟨rfl, fun p hp => by cases hp⟩⟩
  | p :: q, M, m1, V, ν, F, h, hr, hq, A, st, hL, hx => by
    unfold runM at hr
    cases hc : (sub p.anc M && !hasBit M p.i) with
    | false => rw [hc] at hr; cases hr
    | true =>
      rw [hc, cond_true] at hr
      simp only [Bool.and_eq_true, Bool.not_eq_true'] at hc
      obtain ⟨hp, hk⟩ := hq p (by simp)
      have hx' : oiStep cl (trOp P ops p.o) (evOps cl k (q.map (fun p => trOp P ops p.o) ++ T)) F D h = .ok r := hx
      obtain ⟨v, ν1, h1, g1, g2, g3, g5, g4⟩ := stepA S hcl A st hL hp (hokA p hp) hk hc.2 (fun i hi => sub_iff.1 hc.1 i hi) hx'
      have bit : ∀ i, hasBit (Nat.lor M (Nat.pow 2 p.i)) i = true ↔ i = p.i ∨ hasBit M i = true := fun i => by rw [hasBit_or, hasBit_pow, Bool.or_eq_true, decide_eq_true_eq, Or.comm]; exact or_congr_left ⟨Eq.symm, Eq.symm⟩
      obtain ⟨V2, ν2, F2, h2, k1, k2, k3, k4, k5, k7, k6⟩ := blkA q _ m1 _ ν1 _ h1 hr (fun p' hp' => hq p' (by simp [hp'])) g2 g3 (fun i hi => (bit i).2 (.inr (hL i hi))) g1
      refine ⟨V2, ν2, F2, h2, k1, k2, k3, fun i => ?_, fun i hi => ?_, fun b hb => (k7 b hb).trans (g5 b hb), fun hn => ?_⟩
      · rw [k4, bit]
        constructor
        · rintro ((rfl | a) | ⟨p', a, b⟩)
          · exact .inr ⟨p, by simp, rfl⟩
          · exact .inl a
          · exact .inr ⟨p', by simp [a], b⟩
        · rintro (a | ⟨p', a, b⟩)
          · exact .inl (.inr a)
          · rcases List.mem_cons.1 a with rfl | a
            · exact .inl (.inl b.symm)
            · exact .inr ⟨p', a, b⟩
      · rw [k5 i ((bit i).2 (.inr hi))]
        have : i ≠ p.i := fun e => by subst e; rw [hi] at hc; cases hc.2
        simp [updV, this]
      · obtain ⟨n1, n2⟩ := hn p (by simp)
        obtain ⟨e1, e2⟩ := g4 n1 n2
        obtain ⟨e3, e4⟩ := k6 fun p' hp' => hn p' (by simp [hp'])
        subst e1
        refine ⟨e3, fun p' hp' hkr => ?_⟩
        rcases List.mem_cons.1 hp' with rfl | hp'
        · have hv : V2 p'.i = v := by rw [k5 _ ((bit _).2 (.inl rfl))]; simp [updV]
          rw [hv]
          refine (e2 hkr).congr fun i hi => ?_
          have hi' := sub_iff.1 hc.1 i hi
          rw [k5 i ((bit i).2 (.inr hi'))]
          have : i ≠ p'.i := fun e => by subst e; rw [hi'] at hc; cases hc.2
          simp [updV, this]
        · exact e4 p' hp' hkr
theorem chksA {k : KR} {T : List OI} {D : List Dfr} {M : Nat} {V : Nat → AV} {ν : Nat → Nat} {F : Fr} {h : Hp} (A : AI P base N ops cl F0 h0.nx L ρ M V ν F h) : ∀ (c : List Row), (∀ p ∈ c, p ∈ RS ops ∧ kdOp P p.o.op = .read ∧ hasBit M p.i = true) →
    evOps cl k (c.map (fun p => chkOf P ops p) ++ T) F D h = .ok r → evOps cl k T F D h = .ok r ∧ ∀ p ∈ c, PQ P ops cl F0 V p h (V p.i)
  | [], _, hx => ⟨hx, fun p hp => by cases hp⟩
  | p :: c, hc, hx => by
    obtain ⟨h1, h2, h3⟩ := hc p (by simp)
    obtain ⟨d, hd⟩ := S.form_q h1 (.inr h2)
    have hok := hokA p h1
    have ag0 : ∀ t ∈ looksO ops p.o, getN t F = ov ops V F0 p t := fun t ht => by
      rw [A.fr t (looks_lt hok t ht)]
      exact S.viewR h1 h2 (A.xd p h1 h3) ht
    have hd5 : d < 512 := by
      simp only [okOp, Bool.and_eq_true] at hok
      have := hok.1.2
      rw [hd] at this
      simp only [Bool.and_eq_true] at this
      simpa [Nat.blt_eq] using this.2
    have hv : getN d F = V p.i := by
      rw [A.fr d hd5]
      unfold cur
      rw [S.dst h1 hd]
      simp only [h3, cond_true]
    obtain ⟨h', q⟩ := A.pr p h1 h3 h2
    obtain ⟨q1, q2⟩ := chk_step hcl rfl hok h2 hd (by rw [hv]; exact q F ag0) (show oiStep cl (chkOf P ops p) (evOps cl k (c.map (fun p => chkOf P ops p) ++ T)) F D h = .ok r from hx)
    obtain ⟨e1, e2⟩ := chksA A c (fun p' hp' => hc p' (by simp [hp'])) q2
    refine ⟨e1, fun p' hp' => ?_⟩
    rcases List.mem_cons.1 hp' with rfl | hp'
    · rw [hv] at q1
      exact fun F1 ag => q1.dep hcl hok fun t ht => by rw [ag0 t ht, ag t ht]
    · exact e2 p' hp'
end
variable (P ops) in
def effsO : List Row := (RS ops).filter (isK P .eff)
variable (P ops) in
def quietO : List Row := (RS ops).filter fun r => !isK P .eff r
variable (P ops) in
/-- What is left of a plan, behind a block. -/
def Tail (es : List Row) (l M : Nat) (live : List Row) (t : List PI) : Prop := match es with
  | [] => t = []
  | e :: es' => (∀ i, hasBit e.anc i = true → hasBit M i = true) ∧ hasBit M e.i = false ∧ ∃ t', planGo P (quietO P ops) (effsO P ops) es' (l + 1) (Nat.lor M (Nat.pow 2 e.i)) (live.filter fun r => !hasBit e.anc r.i) = some t' ∧ t = .run e :: t'
theorem quiet_mem {p : Row} {l : Nat} (h : p ∈ blockOf (quietO P ops) (effsO P ops) l) : p ∈ RS ops ∧ kdOp P p.o.op ≠ .eff ∧ lvl (effsO P ops) p = l := by
  obtain ⟨h1, h2⟩ := List.mem_filter.1 h
  obtain ⟨h3, h4⟩ := List.mem_filter.1 h1
  refine ⟨h3, fun e => ?_, by simpa using h2⟩
  simp [isK, e] at h4
/-- A block, and what is looked at again. -/
theorem blockA (S : DS P ops) (hcl : ClOk P base cl) (hokA : ∀ q ∈ RS ops, okOp P N ops q.o = true) {F0 : Fr} {L : Nat → Bool} {ρ0 ρ : Rn} {h0 h : Hp} {w0 w : World} {k : KR} {D : List Dfr} {M : Nat} {V : Nat → AV} {ν : Nat → Nat} {F : Fr} {es : List Row} {l : Nat} {live : List Row} {pl : List PI}
    (hp : planGo P (quietO P ops) (effsO P ops) es l M live = some pl) (A : AI P base N ops cl F0 h0.nx L ρ M V ν F h) (st : Stp P base ρ0 h0 w0 ρ h w) (hL : ∀ i, L i = true → hasBit M i = true) (hlive : ∀ p ∈ live, p ∈ RS ops ∧ kdOp P p.o.op = .read ∧ hasBit M p.i = true)
    (hx : evOps cl k (pl.map (trPI P ops)) F D h = .ok r) :
    ∃ M1 V' ν' F' h' t, evOps cl k (t.map (trPI P ops)) F' D h' = .ok r ∧ AI P base N ops cl F0 h0.nx L ρ M1 V' ν' F' h' ∧ Stp P base ρ0 h0 w0 ρ h' w ∧ Tail P ops es l M1 (live ++ (blockOf (quietO P ops) (effsO P ops) l).filter (isK P .read)) t ∧
      (∀ i, hasBit M1 i = true ↔ hasBit M i = true ∨ ∃ p ∈ blockOf (quietO P ops) (effsO P ops) l, p.i = i) ∧ (∀ i, hasBit M i = true → V' i = V i) ∧ (∀ b, ρ.blk b ≠ none → hat b h'.t = hat b h.t) ∧
      ∀ p ∈ live ++ (blockOf (quietO P ops) (effsO P ops) l).filter (isK P .read), (p ∈ RS ops ∧ kdOp P p.o.op = .read ∧ hasBit M1 p.i = true) ∧ PQ P ops cl F0 V' p h' (V' p.i) := by
  -- whatever is left
  have main : ∀ (m1 : Nat) (t : List PI), runM (blockOf (quietO P ops) (effsO P ops) l) M = some m1 →
      pl = (blockOf (quietO P ops) (effsO P ops) l).map .run ++ (chksOf P (blockOf (quietO P ops) (effsO P ops) l) (live ++ (blockOf (quietO P ops) (effsO P ops) l).filter (isK P .read)) live).map .chk ++ t →
      Tail P ops es l m1 (live ++ (blockOf (quietO P ops) (effsO P ops) l).filter (isK P .read)) t → ∃ M1 V' ν' F' h' t, evOps cl k (t.map (trPI P ops)) F' D h' = .ok r ∧ AI P base N ops cl F0 h0.nx L ρ M1 V' ν' F' h' ∧ Stp P base ρ0 h0 w0 ρ h' w ∧ Tail P ops es l M1 (live ++ (blockOf (quietO P ops) (effsO P ops) l).filter (isK P .read)) t ∧
      (∀ i, hasBit M1 i = true ↔ hasBit M i = true ∨ ∃ p ∈ blockOf (quietO P ops) (effsO P ops) l, p.i = i) ∧ (∀ i, hasBit M i = true → V' i = V i) ∧ (∀ b, ρ.blk b ≠ none → hat b h'.t = hat b h.t) ∧
      ∀ p ∈ live ++ (blockOf (quietO P ops) (effsO P ops) l).filter (isK P .read), (p ∈ RS ops ∧ kdOp P p.o.op = .read ∧ hasBit M1 p.i = true) ∧ PQ P ops cl F0 V' p h' (V' p.i) := by
    intro m1 t hr hpl ht
    generalize hq : blockOf (quietO P ops) (effsO P ops) l = q at hr hpl ht ⊢
    have hqm : ∀ p ∈ q, p ∈ RS ops ∧ kdOp P p.o.op ≠ .eff := fun p hp => by rw [← hq] at hp; exact ⟨(quiet_mem hp).1, (quiet_mem hp).2.1⟩
    rw [hpl] at hx
    simp only [List.map_append, List.map_map, List.append_assoc] at hx
    have hx' : evOps cl k (q.map (fun p => trOp P ops p.o) ++ ((chksOf P q (live ++ q.filter (isK P .read)) live).map (fun p => chkOf P ops p) ++ t.map (trPI P ops))) F D h = .ok r := hx
    obtain ⟨V', ν', F', h', k1, k2, k3, k4, k5, k7, k6⟩ := blkA S hcl hokA q M m1 V ν F h hr hqm A st hL hx'
    have hmem : ∀ p ∈ live ++ q.filter (isK P .read), p ∈ RS ops ∧ kdOp P p.o.op = .read ∧ hasBit m1 p.i = true := by
      intro p hp
      rcases List.mem_append.1 hp with hp | hp
      · obtain ⟨a, b, c⟩ := hlive p hp
        exact ⟨a, b, (k4 _).2 (.inl c)⟩
      · obtain ⟨a, b⟩ := List.mem_filter.1 hp
        exact ⟨(hqm p a).1, by simpa [isK] using b, (k4 _).2 (.inr ⟨p, a, rfl⟩)⟩
    cases hany : q.any fun r => isK P .make r || isK P .ins r with
    | true =>
      unfold chksOf at k1
      rw [hany, cond_true] at k1
      obtain ⟨c1, c2⟩ := chksA S hcl hokA k2 _ hmem k1
      exact ⟨m1, V', ν', F', h', t, c1, k2, k3, ht, k4, k5, k7, fun p hp => ⟨hmem p hp, c2 p hp⟩⟩
    | false =>
      unfold chksOf at k1
      rw [hany, cond_false] at k1
      obtain ⟨c1, c2⟩ := chksA S hcl hokA k2 _ (fun p hp => hmem p (List.mem_append_left _ hp)) k1
      obtain ⟨e1, e2⟩ := k6 fun p hp => by
        have := List.any_eq_false.1 hany p hp
        simp only [isK, Bool.or_eq_true, beq_iff_eq, not_or] at this
        exact this
      refine ⟨m1, V', ν', F', h', t, c1, k2, k3, ht, k4, k5, k7, fun p hp => ⟨hmem p hp, ?_⟩⟩
      rcases List.mem_append.1 hp with hp | hp
      · exact c2 p hp
      · obtain ⟨a, b⟩ := List.mem_filter.1 hp
        rw [e1]; exact e2 p a (by simpa [isK] using b)
  cases es with
  | nil =>
    unfold planGo at hp
    simp only at hp
    cases hr : runM (blockOf (quietO P ops) (effsO P ops) l) M with
    | none => rw [hr] at hp; cases hp
    | some m1 =>
      rw [hr] at hp
      cases hp
      exact main m1 [] hr (by simp) rfl
  | cons e es =>
    unfold planGo at hp
    simp only at hp
    cases hr : runM (blockOf (quietO P ops) (effsO P ops) l) M with
    | none => rw [hr] at hp; cases hp
    | some m1 =>
      rw [hr] at hp
      simp only at hp
      cases hc : (sub e.anc m1 && !hasBit m1 e.i) with
      | false => rw [hc] at hp; cases hp
      | true =>
        rw [hc, cond_true] at hp
        simp only [Bool.and_eq_true, Bool.not_eq_true'] at hc
        split at hp
        · rename_i t' ht'
          cases hp
          exact main m1 (.run e :: t') hr rfl ⟨sub_iff.1 hc.1, hc.2, t', ht', rfl⟩
        · cases hp
end
end Go.Ev

/- Part of the proof of CompileForCardSaid. -/
import Derived.Test.YthhgndcpeeifeaaGreatDoorE08
set_option linter.unusedVariables false
set_option linter.unusedSimpArgs false
set_option linter.unusedSectionVars false
set_option linter.constructorNameAsVariable false
namespace Go.Ev
open Go Go.RowKit
theorem hasBit_eq (n i : Nat) : hasBit n i = n.testBit i := by
  unfold hasBit
  rw [Nat.testBit_eq_decide_div_mod_eq, Bool.eq_iff_iff]
  have e : ∀ a b, Nat.mod a b = a % b := fun _ _ => rfl
  have e2 : Nat.shiftRight n i = n / 2 ^ i := Nat.shiftRight_eq_div_pow n i
  simp only [e, e2, Nat.beq_eq, decide_eq_true_eq]
theorem hasBit_or (m n i : Nat) : hasBit (Nat.lor m n) i = (hasBit m i || hasBit n i) := by
  simp only [hasBit_eq]; exact Nat.testBit_or m n i
theorem hasBit_pow (j i : Nat) : hasBit (Nat.pow 2 j) i = decide (j = i) := by
  rw [hasBit_eq]; exact Nat.testBit_two_pow
theorem hasBit_zero (i : Nat) : hasBit 0 i = false := by rw [hasBit_eq]; exact Nat.zero_testBit i
theorem sub_iff {m n : Nat} : sub m n = true ↔ ∀ i, hasBit m i = true → hasBit n i = true := by
  unfold sub
  rw [Nat.beq_eq]
  have e : Nat.land m n = m &&& n := rfl
  rw [e]
  constructor
  · intro h i hi
    rw [hasBit_eq] at hi ⊢
    rw [← h, Nat.testBit_and, Bool.and_eq_true] at hi
    exact hi.2
  · intro h
    refine Nat.eq_of_testBit_eq fun i => ?_
    rw [Nat.testBit_and]
    cases hm : m.testBit i with
    | false => rfl
    | true =>
      have := h i (by rw [hasBit_eq]; exact hm)
      rw [hasBit_eq] at this
      rw [this]; rfl
theorem ancs_len : ∀ (l : List Oper) (acc : List Nat), (ancs l acc).length = l.length
  | [], _ => rfl
  | o :: l, acc => by simp only [ancs, List.length_cons, ancs_len l]
theorem rows_get : ∀ (l : List Oper) (s : List Nat) (i j : Nat), l.length = s.length → (rows l s i)[j]? = (l[j]?).map fun o => ⟨i + j, o, s.getD j 0⟩
  | [], [], i, j, _ => by simp [rows]
  | o :: l, a :: s, i, 0, _ => by simp [rows]
  | o :: l, a :: s, i, j + 1, h => by
    simp only [rows, List.getElem?_cons_succ, rows_get l s (i + 1) j (by simpa using h), List.getD_cons_succ]
    congr 1; funext o; congr 1; omega
  | [], _ :: _, _, _, h => by simp at h
  | _ :: _, [], _, _, h => by simp at h
def RS (ops : Array Oper) : List Row := rows ops.toList (ancs ops.toList []) 0
theorem rs_get (ops : Array Oper) (i : Nat) : (RS ops)[i]? = (ops[i]?).map fun o => ⟨i, o, (ancs ops.toList []).getD i 0⟩ := by
  unfold RS
  rw [rows_get _ _ _ _ (ancs_len _ _).symm, Array.getElem?_toList]
  simp
theorem rs_mem {ops : Array Oper} {r : Row} (h : r ∈ RS ops) : (RS ops)[r.i]? = some r ∧ ops[r.i]? = some r.o := by
  obtain ⟨j, hj⟩ := List.getElem?_of_mem h
  have h2 := hj
  rw [rs_get] at h2
  cases ho : ops[j]? with
  | none => rw [ho] at h2; cases h2
  | some o =>
    rw [ho] at h2
    simp only [Option.map_some, Option.some.injEq] at h2
    subst h2
    exact ⟨hj, ho⟩
theorem rs_of {ops : Array Oper} {i : Nat} (h : i < ops.size) : ∃ r, r ∈ RS ops ∧ r.i = i := by
  have : (RS ops)[i]? = some ⟨i, ops[i], (ancs ops.toList []).getD i 0⟩ := by rw [rs_get]; simp [h]
  exact ⟨_, List.mem_of_getElem? this, rfl⟩
theorem rs_eq {ops : Array Oper} {r q : Row} (h : r ∈ RS ops) (h2 : q ∈ RS ops) (e : r.i = q.i) : r = q := by
  have h1 := (rs_mem h).1
  rw [e, (rs_mem h2).1] at h1
  exact (Option.some.inj h1).symm
/-- What is ahead is ahead by an edge, or ahead of what is. -/
theorem fold_bit (c : Edge → Nat) (q : Nat) : ∀ (l : List Edge) (s : Nat), hasBit (l.foldl (fun s e => cond (Region.binds .any e) (Nat.lor s (Nat.lor (Nat.pow 2 e.on) (c e))) s) s) q = true →
    hasBit s q = true ∨ ∃ e ∈ l, Region.binds .any e = true ∧ (e.on = q ∨ hasBit (c e) q = true)
  | [], s, h => .inl h
  | e :: l, s, h => by
    rcases fold_bit c q l _ h with h | ⟨e', h1, h2⟩
    · replace h : hasBit (cond (Region.binds .any e) (Nat.lor s (Nat.lor (Nat.pow 2 e.on) (c e))) s) q = true := h
      cases hb : Region.binds .any e with
      | false => rw [hb] at h; exact .inl h
      | true =>
        rw [hb] at h
        simp only [cond_true, hasBit_or, hasBit_pow, Bool.or_eq_true, decide_eq_true_eq] at h
        rcases h with h | h | h
        · exact .inl h
        · exact .inr ⟨e, by simp, hb, .inl h⟩
        · exact .inr ⟨e, by simp, hb, .inr h⟩
    · exact .inr ⟨e', by simp [h1], h2⟩
def ancV (acc : List Nat) (l : List Oper) (j : Nat) : Nat := if j < acc.length then acc.getD (acc.length - 1 - j) 0 else (ancs l acc).getD (j - acc.length) 0
theorem ancs_bit (q : Nat) : ∀ (l : List Oper) (acc : List Nat) (k : Nat) (o : Oper), l[k]? = some o → (∀ e ∈ o.after.toList, Region.binds .any e = true → e.on < acc.length + k) → hasBit ((ancs l acc).getD k 0) q = true →
    ∃ e ∈ o.after.toList, Region.binds .any e = true ∧ (e.on = q ∨ hasBit (ancV acc l e.on) q = true)
  | [], _, _, _, h, _, _ => by simp at h
  | o' :: l, acc, 0, o, h, hlt, hb => by
    simp at h; subst h
    simp only [ancs, List.getD_cons_zero] at hb
    rcases fold_bit _ q _ _ hb with h0 | ⟨e, h1, h2, h3⟩
    · rw [hasBit_zero] at h0; cases h0
    · refine ⟨e, h1, h2, h3.imp id fun h => ?_⟩
      have := hlt e h1 h2
      unfold ancV
      rw [if_pos (by omega)]; exact h
  | o' :: l, acc, k + 1, o, h, hlt, hb => by
    simp only [ancs, List.getD_cons_succ] at hb
    obtain ⟨e, h1, h2, h3⟩ := ancs_bit q l _ k o (by simpa using h) (fun e h1 h2 => by have := hlt e h1 h2; simp only [List.length_cons]; omega) hb
    refine ⟨e, h1, h2, h3.imp id fun h => ?_⟩
    refine h ▸ ?_
    congr 1
    unfold ancV
    simp only [List.length_cons, ancs]
    by_cases c1 : e.on < acc.length
    · rw [if_pos c1, if_pos (by omega), show acc.length + 1 - 1 - e.on = (acc.length - 1 - e.on) + 1 by omega, List.getD_cons_succ]
    · by_cases c2 : e.on = acc.length
      · rw [if_neg c1, if_pos (by omega), c2, show acc.length + 1 - 1 - acc.length = 0 by omega, Nat.sub_self, List.getD_cons_zero, List.getD_cons_zero]
      · rw [if_neg c1, if_neg (by omega), show e.on - acc.length = (e.on - (acc.length + 1)) + 1 by omega, List.getD_cons_succ]
theorem anc_ok {ops : Array Oper} {r : Row} (h : r ∈ RS ops) (hlt : ∀ e ∈ r.o.after.toList, Region.binds .any e = true → e.on < r.i) {q : Nat} (hq : hasBit r.anc q = true) :
    ∃ e ∈ r.o.after.toList, Region.binds .any e = true ∧ (e.on = q ∨ ∃ r', r' ∈ RS ops ∧ r'.i = e.on ∧ hasBit r'.anc q = true) := by
  obtain ⟨h1, h2⟩ := rs_mem h
  rw [rs_get, h2] at h1
  simp only [Option.map_some, Option.some.injEq] at h1
  have ha : r.anc = (ancs ops.toList []).getD r.i 0 := by rw [← h1]
  rw [ha] at hq
  obtain ⟨e, g1, g2, g3⟩ := ancs_bit q ops.toList [] r.i r.o (by rw [Array.getElem?_toList]; exact h2) (fun e h1 h2 => by have := hlt e h1 h2; simpa using this) hq
  refine ⟨e, g1, g2, g3.imp id fun g => ?_⟩
  have := hlt e g1 g2
  have hs : r.i < ops.size := by
    rcases Nat.lt_or_ge r.i ops.size with c | c
    · exact c
    · rw [Array.getElem?_eq_none c] at h2; cases h2
  obtain ⟨r', q1, q2⟩ := rs_of (ops := ops) (i := e.on) (by omega)
  refine ⟨r', q1, q2, ?_⟩
  obtain ⟨h1', h2'⟩ := rs_mem q1
  rw [rs_get, h2'] at h1'
  simp only [Option.map_some, Option.some.injEq] at h1'
  rw [← h1']
  simpa [ancV, q2] using g
end Go.Ev
namespace Go.Ev
open Go Go.RowKit
variable {r : DV}
noncomputable def putD (d : Option Nat) (v : AV) (F : Fr) : Fr := match d with
  | some d => putN d v F
  | none => F
noncomputable def getO (d : Option Nat) (F : Fr) : AV := match d with
  | some d => getN d F
  | none => .u
theorem putD_get (d : Option Nat) (v : AV) (F F1 : Fr) : putD d (getO d (putD d v F1)) F = putD d v F := by
  cases d with
  | none => rfl
  | some d => simp only [putD, getO, getN_putN_self]
section
variable {P : Program} {base N : Nat} {cl : Cl} {ops : Array Oper} {o : Oper}
/-- What an item is: of one operation. -/
theorem x_of (hcl : ClOk P base cl) (hok : okOp P N ops o = true) : ∃ x : X, (∀ (α : Type) (k : X → α), trX P o.op k = k x) ∧ Fact P o.op x := by
  obtain ⟨x, h1, _⟩ := ops_ok hcl N ops o hok
  refine ⟨x, h1, ?_⟩
  have := facts (P := P) o.op
  rwa [h1 X fun x => x] at this
theorem looks_ops {F F' : Fr} (h : ∀ t ∈ looksO ops o, getN t F = getN t F') : ∀ u ∈ o.op.operands.toList, opA u F = opA u F' := fun u hu =>
  opA_dep fun t ht => h t (by unfold looksO; exact List.mem_append_left _ (List.mem_flatMap.2 ⟨u, hu, ht⟩))
theorem looks_guard {F F' : Fr} (h : ∀ t ∈ looksO ops o, getN t F = getN t F') {j : Nat} {w : Bool} {g : Nat} (hg : o.guard = some (j, w)) (hj : (ops[j]?).bind (·.dst) = some g) : getN g F = getN g F' :=
  h g (by unfold looksO; rw [hg]; simp [hj])
theorem df_op {f : Operand} {args : Array Operand} (h : dfOf o.op = some (f, args)) : f ∈ o.op.operands.toList ∧ ∀ u ∈ args.toList, u ∈ o.op.operands.toList := by
  unfold dfOf at h
  split at h
  · rename_i heq
    cases h
    rw [heq]
    simp only [Op.operands, Call.operands, Array.toList_append]
    exact ⟨by simp, fun u hu => by simp; exact .inr (by simpa using hu)⟩
  · cases h
/-- A step hangs on what it looks at; what it turns of the frame is its own slot. -/
theorem oi_dep (hcl : ClOk P base cl) (hok : okOp P N ops o = true) (k : KR) {F F' : Fr} (ag : ∀ t ∈ looksO ops o, getN t F = getN t F') (D : List Dfr) (h : Hp) :
    oiStep cl (trOp P ops o) k F' D h = oiStep cl (trOp P ops o) (fun F1 D h => k (putD o.dst (getO o.dst F1) F') D h) F D h := by
  obtain ⟨x, hx, hf⟩ := x_of hcl hok
  have dep : ∀ k, x cl F h k = x cl F' h k := fun k => hf.1 cl F F' h k (looks_ops ag)
  unfold trOp
  cases hdf : dfOf o.op with
  | some fa =>
    obtain ⟨f, args⟩ := fa
    obtain ⟨hm1, hm2⟩ := df_op hdf
    have e1 := looks_ops ag f hm1
    have e2 := mapO_dep (F := F) (F' := F') (l := args.toList) fun u hu => looks_ops ag u (hm2 u hu)
    cases hg : o.guard with
    | some g => rfl
    | none =>
      simp only [opF_eq, opsF_eq]
      cases hd : o.dst with
      | none => simp only [hd, oiStep, putD, getO, e1, e2]
      | some d =>
        simp only [hd, slM_eq, oiStep, putD, getO, getN_putN_self, e1, e2]
  | none =>
    cases hg : o.guard with
    | none =>
      cases hd : o.dst with
      | none => simp only [hx, oiStep, putD, getO, dep]
      | some d => simp only [hx, slM_eq, oiStep, putD, getO, getN_putN_self, dep]
    | some jw =>
      obtain ⟨j, w⟩ := jw
      cases hd : o.dst with
      | none => rfl
      | some d =>
        cases hj : (ops[j]?).bind (·.dst) with
        | none => simp only [hj]; rfl
        | some g =>
          have e3 := looks_guard ag hg hj
          simp only [hj, hx, slM_eq, slG_eq, boolF_eq, oiStep, putD, getO, getN_putN_self, dep, e3]
/-- A quiet step: it yields a value. -/
def QStep (P : Program) (cl : Cl) (ops : Array Oper) (o : Oper) (F : Fr) (h : Hp) (v : AV) : Prop := ∀ (k : KR) D, oiStep cl (trOp P ops o) k F D h = k (putD o.dst v F) D h
theorem QStep.dep (hcl : ClOk P base cl) (hok : okOp P N ops o = true) {F F' : Fr} (ag : ∀ t ∈ looksO ops o, getN t F = getN t F') {h : Hp} {v : AV} (q : QStep P cl ops o F h v) : QStep P cl ops o F' h v := fun k D => by
  rw [oi_dep hcl hok k ag, q, putD_get]
theorem lin_ok {β : Type} {G : (β → Res) → Res} (hl : Lin G) {k : β → Res} (hk : G k = .ok r) : ∃ v, ∀ k, G k = k v := by
  rcases hl with ⟨n, a, h⟩ | h
  · rw [h] at hk; exact bad_ok hk
  · exact h
theorem wanted_eq {c b : Bool} (y n : Res) : wanted (.b c) b y n = if (c == b) = true then y else n := by
  show cif (cif c b (nt b)) y n = _
  rw [cif_eq, cif_eq, nt_eq]
  cases b <;> cases c <;> rfl
/-- One that computes, or reads. -/
theorem quiet_step (hcl : ClOk P base cl) (hok : okOp P N ops o = true) (hk : kdOp P o.op = .pure ∨ kdOp P o.op = .read) {d : Nat} (hd : o.dst = some d) {k : KR} {F : Fr} {D : List Dfr} {h : Hp} (hx : oiStep cl (trOp P ops o) k F D h = .ok r) :
    ∃ v, QStep P cl ops o F h v ∧ (kdOp P o.op = .pure → ∀ h', QStep P cl ops o F h' v) := by
  obtain ⟨x, hx1, hf⟩ := x_of hcl hok
  have hdf : dfOf o.op = none := by
    cases hdf : dfOf o.op with
    | none => rfl
    | some fa =>
      unfold dfOf at hdf
      split at hdf
      · rename_i heq
        rw [heq] at hk
        rcases hk with hk | hk <;> simp [kdOp] at hk
      · cases hdf
  have hread : ReadX x := by
    rcases hk with hk | hk
    · exact (hf.2.1 hk).read
    · exact hf.2.2 hk
  -- whatever is done with what it yields
  have main : ∀ {r : DV} (k0 : K), x cl F h k0 = .ok r → ∃ v, (∀ kk : K, x cl F h kk = kk v h) ∧ (kdOp P o.op = .pure → ∀ (h' : Hp) (kk : K), x cl F h' kk = kk v h') := fun {r} k0 hK => by
    by_cases hp : kdOp P o.op = .pure
    · obtain ⟨G, g1, g2⟩ := hf.2.1 hp F
      rw [g2] at hK
      obtain ⟨v, hv⟩ := lin_ok g1 hK
      exact ⟨v, fun kk => by rw [g2, hv], fun _ h' kk => by rw [g2, hv]⟩
    · obtain ⟨G, g1, g2⟩ := hread F h
      rw [g2] at hK
      obtain ⟨v, hv⟩ := lin_ok g1 hK
      exact ⟨v, fun kk => by rw [g2, hv], fun e => absurd e hp⟩
  unfold QStep
  unfold trOp at hx ⊢
  simp only [hdf, hd] at hx ⊢
  cases hg : o.guard with
  | none =>
    simp only [hg, hx1, slM_eq, oiStep] at hx ⊢
    obtain ⟨v, h1, h2⟩ := main _ hx
    exact ⟨v, fun k D => by rw [h1]; rfl, fun hp h' k D => by rw [h2 hp]; rfl⟩
  | some jw =>
    obtain ⟨j, w⟩ := jw
    cases hj : (ops[j]?).bind (·.dst) with
    | none => simp only [hg, hj] at hx; exact bad_ok hx
    | some g =>
      simp only [hg, hj, hx1, slM_eq, slG_eq, boolF_eq, oiStep] at hx ⊢
      rcases wanted_ok hx with ⟨c, hc, hcase⟩ | ⟨⟨l, hc⟩, hx⟩
      · simp only [hc, wanted_eq]
        rcases hcase with ⟨hw, hx⟩ | ⟨hw, hx⟩
        · simp only [hw, if_true]
          obtain ⟨v, h1, h2⟩ := main _ hx
          exact ⟨v, fun k D => by rw [h1]; rfl, fun hp h' k D => by rw [h2 hp]; rfl⟩
        · simp only [hw, Bool.false_eq_true, if_false]
          exact ⟨.t [], fun k D => rfl, fun _ h' k D => rfl⟩
      · simp only [hc]
        exact ⟨.t [], fun k D => rfl, fun _ h' k D => rfl⟩
end
end Go.Ev
namespace Go.Ev
open Go Go.RowKit
variable {r : DV}
theorem deqI_eq {a b : Id} (h : deqI a b = true) : a = b := by
  obtain ⟨a1, a2, a3, a4, a5⟩ := a
  obtain ⟨b1, b2, b3, b4, b5⟩ := b
  simp only [deqI, an_eq, Bool.and_eq_true] at h
  have d : ∀ {x y : D8}, deqD x y = true → x = y := fun {x y} h => by cases x <;> cases y <;> first | rfl | exact absurd (show (false : Bool) = true from h) Bool.false_ne_true
  obtain ⟨h5, h4, h3, h2, h1⟩ := h
  rw [d h1, d h2, d h3, d h4, d h5]
theorem eqY_true {x y : AV} (h : eqY x y = some true) : x = y := by
  have s1 : ∀ n b m d, begSY n b m d ≠ some true := fun n b m d => by
    unfold begSY
    cases Nat.beq n 0 <;> cases Nat.beq m 0 <;> cases isSy d <;> cases isDg b <;> cases Nat.beq b d <;> simp
  have s2 : ∀ n b m d, begYY n b m d ≠ some true := fun n b m d => by
    unfold begYY
    cases Nat.beq n 0 <;> cases Nat.beq m 0 <;> cases isSy d <;> cases isSy b <;> cases isDg b <;> cases isDg d <;> cases Nat.beq b d <;> simp
  unfold eqY at h
  split at h
  · rename_i a b
    cases hh : an (yOdd a) (yOdd b) with
    | false => rw [hh] at h; cases h
    | true =>
      rw [hh] at h
      cases he : Nat.beq a b with
      | false => rw [he] at h; exact absurd h (s2 _ _ _ _)
      | true => rw [Nat.eq_of_beq_eq_true he]
  · rename_i n c b
    cases hh : yOdd b with
    | false => rw [hh] at h; cases h
    | true => rw [hh] at h; exact absurd h (s1 _ _ _ _)
  · rename_i a n c
    cases hh : yOdd a with
    | false => rw [hh] at h; cases h
    | true => rw [hh] at h; exact absurd h (s1 _ _ _ _)
  · cases h
theorem eq1_true {x y : AV} (hi : ∀ k n l m, ¬ (x = .i k n ∧ y = .i l m)) (h : eq1 x y = some true) : x = y := by
  unfold eq1 at h
  split at h
  all_goals first
    | (cases h; done)
    | rfl
    | (simp only [Option.some.injEq, beq_iff_eq] at h; rw [h]; done)
    | (exact absurd ⟨rfl, rfl⟩ (hi _ _ _ _))
    | (simp only [Option.some.injEq, an_eq, Bool.and_eq_true, Nat.beq_eq] at h; rw [h.1, h.2]; done)
    | (simp only [Option.some.injEq, an_eq, Bool.and_eq_true, Nat.beq_eq] at h; rw [deqI_eq h.1, h.2]; done)
    | (exact eqY_true h)
    | skip
  rename_i a b
  cases ho : yOdd a with
  | true => rw [ho] at h; exact eqY_true h
  | false =>
    rw [ho] at h
    cases he : Nat.beq a b with
    | false => rw [he] at h; cases h
    | true => rw [Nat.eq_of_beq_eq_true he]
theorem same_fin {x y : AV} (e : same x y = match eq1 x y with
    | some b => b
    | none => false) (h : same x y = true) (hi : ∀ k n, x ≠ .i k n) : x = y := by
  rw [e] at h
  split at h
  · rename_i b hb
    subst h
    exact eq1_true (fun k n l m e => hi k n e.1) hb
  · cases h
mutual
theorem same_eq : ∀ (x y : AV), same x y = true → x = y
  | .g x, y, h => by
    cases y <;> first | (unfold same at h; rw [sameL_eq x _ h]; done) | (simp [same, eq1, eqY] at h)
  | .t x, y, h => by
    cases y <;> first | (unfold same at h; rw [sameL_eq x _ h]; done) | (simp [same, eq1, eqY] at h)
  | .if_ t v, y, h => by
    cases y <;> first
      | (unfold same at h; simp only [an_eq, Bool.and_eq_true, Nat.beq_eq] at h; rw [h.1, same_eq v _ h.2]; done)
      | (simp [same, eq1, eqY] at h)
  | .f fn a b, y, h => by
    cases y with
    | f fn2 c d =>
      cases fn <;> cases fn2 <;> first
        | (unfold same at h; simp only [an_eq, Bool.and_eq_true, Nat.beq_eq] at h; rw [h.1, sameL_eq a _ h.2.1, sameL_eq b _ h.2.2]; done)
        | (simp [same, eq1, eqY] at h)
    | _ => cases fn <;> simp [same, eq1, eqY] at h
  | .sl b o n, y, h => by
    cases y <;> first
      | (unfold same at h; simp only [an_eq, Bool.and_eq_true, Nat.beq_eq] at h; rw [deqI_eq h.1, h.2.1, h.2.2]; done)
      | (simp [same, eq1, eqY] at h)
  | .m b, y, h => by
    cases y <;> first | (unfold same at h; rw [deqI_eq h]; done) | (simp [same, eq1, eqY] at h)
  | .sw b, y, h => by
    cases y <;> first | (unfold same at h; rw [deqI_eq h]; done) | (simp [same, eq1, eqY] at h)
  | .i k n, y, h => by
    cases y <;> first
      | (unfold same at h; simp only [an_eq, Bool.and_eq_true, ieq_eq, decide_eq_true_eq] at h; rw [kn_inj h.1, h.2]; done)
      | (simp [same, eq1, eqY] at h)
  | .u, y, h => same_fin (by cases y <;> (simp only [same] <;> rfl)) h (by simp)
  | .b _, y, h => same_fin (by cases y <;> (simp only [same] <;> rfl)) h (by simp)
  | .s _ _, y, h => same_fin (by cases y <;> (simp only [same] <;> rfl)) h (by simp)
  | .p _ _, y, h => same_fin (by cases y <;> (simp only [same] <;> rfl)) h (by simp)
  | .p0, y, h => same_fin (by cases y <;> (simp only [same] <;> rfl)) h (by simp)
  | .sl0, y, h => same_fin (by cases y <;> (simp only [same] <;> rfl)) h (by simp)
  | .m0, y, h => same_fin (by cases y <;> (simp only [same] <;> rfl)) h (by simp)
  | .f0, y, h => same_fin (by cases y <;> (simp only [same] <;> rfl)) h (by simp)
  | .if0, y, h => same_fin (by cases y <;> (simp only [same] <;> rfl)) h (by simp)
  | .y _, y, h => same_fin (by cases y <;> (simp only [same] <;> rfl)) h (by simp)
theorem sameL_eq : ∀ (x y : List AV), sameL x y = true → x = y
  | [], [], _ => rfl
  | [], _ :: _, h => by simp [sameL] at h
  | _ :: _, [], h => by simp [sameL] at h
  | a :: x, b :: y, h => by
    unfold sameL at h
    simp only [an_eq, Bool.and_eq_true] at h
    rw [same_eq a b h.1, sameL_eq x y h.2]
end
section
variable {P : Program} {base N : Nat} {cl : Cl} {ops : Array Oper} {o : Oper}
theorem QStep.uniq {F : Fr} {h : Hp} {v v' : AV} {d : Nat} (hd : o.dst = some d) (q : QStep P cl ops o F h v) (q' : QStep P cl ops o F h v') : v = v' := by
  have e1 := q (fun F _ _ => .ok (.v (getN d F))) []
  have e2 := q' (fun F _ _ => .ok (.v (getN d F))) []
  rw [e1] at e2
  simp only [hd, putD, getN_putN_self, Res.ok.injEq, DV.v.injEq] at e2
  exact e2
theorem chk_step (hcl : ClOk P base cl) {rw_ : Row} (hro : rw_.o = o) (hok : okOp P N ops o = true) (hk : kdOp P o.op = .read) {d : Nat} (hd : o.dst = some d) {k : KR} {F : Fr} {D : List Dfr} {h h0 : Hp}
    (hold : QStep P cl ops o F h0 (getN d F)) (hx : oiStep cl (chkOf P ops rw_) k F D h = .ok r) : QStep P cl ops o F h (getN d F) ∧ k F D h = .ok r := by
  obtain ⟨x, hx1, hf⟩ := x_of hcl hok
  have hdf : dfOf o.op = none := by
    cases hdf : dfOf o.op with
    | none => rfl
    | some fa =>
      unfold dfOf at hdf
      split at hdf
      · rename_i heq; rw [heq] at hk; simp [kdOp] at hk
      · cases hdf
  have hread : ReadX x := hf.2.2 hk
  have main : ∀ {r : DV} (k0 : K), x cl F h k0 = .ok r → ∃ v, ∀ kk : K, x cl F h kk = kk v h := fun {r} k0 hK => by
    obtain ⟨G, g1, g2⟩ := hread F h
    rw [g2] at hK
    obtain ⟨v, hv⟩ := lin_ok g1 hK
    exact ⟨v, fun kk => by rw [g2, hv]⟩
  unfold chkOf at hx
  rw [hro] at hx
  unfold QStep at hold ⊢
  unfold trOp at hold ⊢
  simp only [hdf, hd] at hx hold ⊢
  cases hg : o.guard with
  | none =>
    simp only [hg, hx1, slG_eq, slM_eq, oiStep] at hx ⊢
    obtain ⟨v, hv⟩ := main _ hx
    rw [hv] at hx
    simp only [cif_eq] at hx
    rcases ite_ok hx with ⟨hs, hx⟩ | ⟨_, hx⟩
    · have := same_eq _ _ hs
      exact ⟨fun k D => by rw [hv, this]; rfl, hx⟩
    · exact bad_ok hx
  | some jw =>
    obtain ⟨j, w⟩ := jw
    cases hj : (ops[j]?).bind (·.dst) with
    | none => simp only [hg, hj] at hx; exact bad_ok hx
    | some g =>
      simp only [hg, hj, hx1, slM_eq, slG_eq, boolF_eq, oiStep] at hx hold ⊢
      rcases wanted_ok hx with ⟨c, hc, hcase⟩ | ⟨⟨l, hc⟩, hx⟩
      · simp only [hc, wanted_eq] at hold ⊢
        rcases hcase with ⟨hw, hx⟩ | ⟨hw, hx⟩
        · simp only [hw, if_true]
          obtain ⟨v, hv⟩ := main _ hx
          rw [hv] at hx
          simp only [cif_eq] at hx
          rcases ite_ok hx with ⟨hs, hx⟩ | ⟨_, hx⟩
          · have := same_eq _ _ hs
            exact ⟨fun k D => by rw [hv, this]; rfl, hx⟩
          · exact bad_ok hx
        · simp only [hw, Bool.false_eq_true, if_false] at hold ⊢
          have ht : AV.t [] = getN d F := by
            have e := hold (fun F _ _ => .ok (.v (getN d F))) []
            simpa only [putD, getN_putN_self, Res.ok.injEq, DV.v.injEq] using e
          exact ⟨fun k D => by rw [← ht]; rfl, hx⟩
      · simp only [hc] at hold ⊢
        have ht : AV.t [] = getN d F := by
          have e := hold (fun F _ _ => .ok (.v (getN d F))) []
          have e' : Res.ok (.v (getN d (putN d (.t []) F))) = Res.ok (.v (getN d (putD (some d) (getN d F) F))) := e
          simpa only [putD, getN_putN_self, Res.ok.injEq, DV.v.injEq] using e'
        exact ⟨fun k D => by rw [← ht]; rfl, hx⟩
end
end Go.Ev
namespace Go.Ev
open Go Go.RowKit
variable {r : DV}
section
variable {P : Program} {base N : Nat} {cl : Cl} {ops : Array Oper} {o : Oper}
/-- What a making is, wherever the frame is as it was where it was looked at. -/
def MkR (P : Program) (base N : Nat) (ops : Array Oper) (o : Oper) (F : Fr) (e : TypeId) (l : List AV) (vf : Id → AV) : Prop := ∀ (F' : Fr), (∀ t ∈ looksO ops o, getN t F = getN t F') → ∀ (ρ : Rn) (h1 : Hp) (w : World) (a : Act), FR P ρ N F' a → Sim P base ρ h1 w →
  ∃ vs v', RL P ρ l vs.toList ∧ (execOp a.eval o).run P w = .ok (.value v') (w.alloc (.cells vs e)) ∧ ∀ (ρ' : Rn) (id : Id), ρ'.blk id = some w.heap.size → ρ'.csz id = vs.size → ρ'.ext id = l.length → ρ'.ty id = e → ρ'.off id = 0 → RV P ρ' (vf id) v'
theorem mkR_al {e : TypeId} {i : TypeInfo} {v : Value} (ho : o.op = .alloc e) (hi : P.info? e = some i) (hz : i.zero = some v) (F : Fr) : MkR P base N ops o F e (cellsOf (valA v)) fun b => .p b 0 := fun F' ag ρ h1 w a fr s =>
  ⟨v.cells, .pointer (some ⟨w.heap.size, 0, none⟩), cellsOf_valA v, by simp [execOp, ho, Instr.alloc, run_zero hi hz, newVar, newRow], fun ρ' id hb _ _ _ hof => by simp only [RV]; exact ⟨_, hb, by rw [hof]⟩⟩
theorem mkR_box {e : TypeId} {u : Operand} (ho : o.op = .box e u) (hu : okO P u = true) {F : Fr} (hn : nU (opA u F) = true) : MkR P base N ops o F e (cellsOf (opA u F)) fun b => .p b 0 := fun F' ag ρ h1 w a fr s => by
  have e1 : opA u F = opA u F' := looks_ops ag u (by rw [ho]; simp [Op.operands])
  rw [e1] at hn ⊢
  exact ⟨(a.eval u).cells, .pointer (some ⟨w.heap.size, 0, none⟩), cellsOf_ok (opA_ok fr s hu) (nU_ok hn), by simp [execOp, ho, Instr.box, newVar, newRow], fun ρ' id hb _ _ _ hof => by simp only [RV]; exact ⟨_, hb, by rw [hof]⟩⟩
theorem mkR_bldS {t e : TypeId} {len : Nat} {ps : Array (Nat × Operand)} {i : TypeInfo} {v : Value} (ho : o.op = .buildSlice t len ps) (hp : ∀ p ∈ ps.toList, okO P p.2 = true) (ht : P.underlying t = some (.slice e))
    (hi : P.info? e = some i) (hz : i.zero = some v) (hvs : v.cells.size = i.size) (h6 : len * i.size < 1000000) {F : Fr} {l : List AV}
    (hl : ∀ K : List AV → Res, fillAll F (ps.toList.map fun p => match (fun j => some (j * i.size, i.size)) p.1 with
      | some (j, sz) => ⟨j, sz, opA p.2⟩
      | none => ⟨0, 1000000, opA p.2⟩) (repL len (cellsOf (valA v))) K = K l) : MkR P base N ops o F e l fun b => .sl b 0 len := fun F' ag ρ h1 w a fr s => by
  have hcl : (cellsOf (valA v)).length = i.size := by rw [← hvs]; simpa using (cellsOf_valA (P := P) (ρ := ρ) v).length
  have hrl : RL P ρ (repL len (cellsOf (valA v))) ((Array.range (len * v.cells.size)).map fun j => v.cells[j % v.cells.size]!).toList := by
    rw [zeros_eq]; exact repL_ok (cellsOf_valA v) len
  have hx : fillAll F' (ps.toList.map fun p => match (fun j => some (j * i.size, i.size)) p.1 with
      | some (j, sz) => ⟨j, sz, opA p.2⟩
      | none => ⟨0, 1000000, opA p.2⟩) (repL len (cellsOf (valA v))) (fun l1 => .ok (.g (l1.map .v))) = .ok (.g (l.map .v)) := by
    rw [← hl fun l1 => .ok (.g (l1.map .v))]
    exact fillAll_dep (parts_dep (F := F') (F' := F) (fun u hu => (looks_ops ag u (by rw [ho]; exact hu)).symm) fun j => some (j * i.size, i.size)) _ _
  obtain ⟨l', cs', e1, e2, e3, e4⟩ := fill_ok fr s (fun j => some (j * i.size, i.size)) ps.toList _ ((Array.range (len * v.cells.size)).map fun j => v.cells[j % v.cells.size]!) _ hp hrl hx
    (by rw [repL_len, hcl]; exact h6)
  have hll : l' = l := by
    simp only [Res.ok.injEq, DV.g.injEq] at e4
    exact (List.map_inj_right (fun a b h => by cases h; rfl)).1 e4
  subst hll
  have hl' : l'.length = len * i.size := by rw [e3, repL_len, hcl]
  have hcs : cs'.size = len * i.size := by have := e2.length; rw [hl'] at this; simpa using this.symm
  refine ⟨cs', .slice (some ⟨w.heap.size, 0, none⟩) len len, e2, ?_, fun ρ' id hb hc he hty hof => ?_⟩
  · have e1n : Instr.fill (fun j => some (j * i.size, i.size)) ((Array.range (len * i.size)).map fun j => v.cells[j % v.cells.size]!) (ps.map fun (j, x) => (j, a.eval x)).toList = some cs' := by
      rw [Array.toList_map, ← hvs]; rw [← hvs] at e1; exact e1
    simp only [execOp, ho, Instr.buildSlice, run_under ht, run_size hi, Sem.run_bind, Result.andThen_ok, Sem.run_pure]
    rw [if_neg (by omega)]
    by_cases h0 : len * i.size = 0
    · have e1z : Instr.fill (fun j => some (j * i.size, i.size)) ((Array.range (len * i.size)).map fun j => (#[] : Array Value)[j % (#[] : Array Value).size]!) (ps.map fun (j, x) => (j, a.eval x)).toList = some cs' := by
        rw [← e1n]; congr 1; rw [h0]; simp
      rw [if_pos h0, pure_bind]
      rw [e1z]; rfl
    · rw [if_neg h0]
      simp only [Sem.run_bind, run_zero hi hz, Sem.run_pure, Result.andThen_ok]
      rw [e1n]; rfl
  · simp only [RV]
    refine ⟨_, _, _, hb, rfl, Nat.le_refl _, .inl ⟨by rw [hof], ?_, ?_⟩⟩
    · rw [hc, hty, hcs]; simp [Program.cellsOf, hi]
    · rw [he, hty, hl']; simp [Program.cellsOf, hi]
theorem mkR_mkS {t e : TypeId} {u y : Operand} {i : TypeInfo} {v : Value} (ho : o.op = .makeSlice t u y) (hu : okO P u = true) (hy : okO P y = true) (ht : P.underlying t = some (.slice e)) (hi : P.info? e = some i) (hz : i.zero = some v)
    (hvs : v.cells.size = i.size) {F : Fr} {kd kd' : IntKind} {cp l : Nat} (hc : opA y F = .i kd (cp : Nat)) (hlt : cp < 100000) (hl : opA u F = .i kd' (l : Nat)) (hle : l < cp + 1) (hby : i.bytes * cp ≤ 281474976710656) :
    MkR P base N ops o F e (repL cp (cellsOf (valA v))) fun b => .sl b 0 l := fun F' ag ρ h1 w a fr s => by
  have rc := opA_ok fr s hy
  have rl := opA_ok fr s hu
  rw [← looks_ops ag y (by rw [ho]; simp [Op.operands]), hc] at rc
  rw [← looks_ops ag u (by rw [ho]; simp [Op.operands]), hl] at rl
  simp only [RV] at rc rl
  have hcl : (cellsOf (valA v)).length = i.size := by rw [← hvs]; simpa using (cellsOf_valA (P := P) (ρ := ρ) v).length
  have hrl : RL P ρ (repL cp (cellsOf (valA v))) ((Array.range (cp * v.cells.size)).map fun j => v.cells[j % v.cells.size]!).toList := by
    rw [zeros_eq]; exact repL_ok (cellsOf_valA v) cp
  have hlen : (repL cp (cellsOf (valA v))).length = cp * i.size := by rw [repL_len, hcl]
  refine ⟨_, .slice (some ⟨w.heap.size, 0, none⟩) l cp, hrl, ?_, fun ρ' id hb hcz he hty hof => ?_⟩
  · have wc : IntKind.i64.wrap (cp : Int) = cp := wrap_small .i64 cp (show cp < 9223372036854775808 by omega)
    have wl : IntKind.i64.wrap (l : Int) = l := wrap_small .i64 l (show l < 9223372036854775808 by omega)
    have b1 : ¬ ((281474976710656 : Int) < (i.bytes : Int) * (cp : Int)) := by
      have : ((i.bytes * cp : Nat) : Int) ≤ (281474976710656 : Nat) := Int.ofNat_le.2 hby
      rw [Int.natCast_mul] at this; omega
    have b2 : ¬ ((cp : Int) < 0) := by omega
    have b3 : ¬ ((l : Int) < 0) := by omega
    have b5 : ¬ cp < l := by omega
    by_cases h0 : cp * i.size = 0
    · have e5 : ((Array.range (cp * v.cells.size)).map fun j => v.cells[j % v.cells.size]!) = #[] := by rw [hvs, h0]; simp
      rw [e5]
      simp [execOp, ho, Instr.makeSlice, run_under ht, run_size hi, run_info hi, asInt, asIntOf, rc, rl, wc, wl, b1, b2, b3, b5, h0, newRow, show Array.range 0 = #[] from rfl]
    · simp [execOp, ho, Instr.makeSlice, run_under ht, run_size hi, run_info hi, run_zero hi hz, asInt, asIntOf, rc, rl, wc, wl, b1, b2, b3, b5, h0, newRow, hvs]
  · simp only [RV]
    refine ⟨_, _, _, hb, rfl, by omega, .inl ⟨by rw [hof], ?_, ?_⟩⟩
    · rw [hcz, hty]; simp [Program.cellsOf, hi, hvs]
    · rw [he, hty, hlen]; simp [Program.cellsOf, hi]
/-- A making, as the evaluator does it. -/
theorem mk_step (hok : okOp P N ops o = true) (hk : kdOp P o.op = .make) (hg : o.guard = none) {d : Nat} (hd : o.dst = some d) {k : KR} {F : Fr} {D : List Dfr} {h : Hp} (hx : oiStep cl (trOp P ops o) k F D h = .ok r) :
    (∃ e l vf, MkR P base N ops o F e l vf ∧ (newC e l h fun b h => k (putN d (vf b) F) D h) = .ok r ∧ ¬ ∃ t, o.op = .makeMap t none) ∨ (∃ t, o.op = .makeMap t none) ∧ (h.new (.m [] 0) fun b h => k (putN d (.m b) F) D h) = .ok r := by
  have hops : ∀ p ∈ o.op.operands.toList, okO P p = true := by
    simp only [okOp, Bool.and_eq_true] at hok
    exact fun p hp => List.all_eq_true.1 hok.1.1 p hp
  have hdf : dfOf o.op = none := by
    cases hdf : dfOf o.op with
    | none => rfl
    | some fa =>
      unfold dfOf at hdf
      split at hdf
      · rename_i heq; rw [heq] at hk; simp [kdOp] at hk
      · cases hdf
  unfold trOp at hx
  simp only [hdf, hg, hd] at hx
  cases ho : o.op with
  | alloc e =>
    rw [ho] at hx
    simp only [trX, zeroF_eq] at hx
    cases hz : (P.info? e).bind (·.zero) with
    | none => simp only [hz, slM_eq] at hx; exact bad_ok hx
    | some v =>
      obtain ⟨i, h1, h2⟩ := zero_some hz
      simp only [hz, slM_eq] at hx
      exact .inl ⟨e, _, _, mkR_al ho h1 h2 F, hx, by rintro ⟨t', e'⟩; cases e'⟩
  | box e x =>
    rw [ho] at hx
    simp only [trX, opF_eq, slM_eq] at hx
    have hx' : cif (nU (opA x F)) (newC e (cellsOf (opA x F)) h fun b h => k (putN d (.p b 0) F) D h) (Ev.bad 18) = .ok r := hx
    rw [cif_eq] at hx'
    rcases ite_ok hx' with ⟨hn, hx⟩ | ⟨_, hx⟩
    · exact .inl ⟨e, _, _, mkR_box ho (hops x (by simp [ho, Op.operands])) hn, hx, by rintro ⟨t', e'⟩; cases e'⟩
    · exact bad_ok hx
  | buildSlice t len ps =>
    rw [ho] at hx
    simp only [trX, partsF_eq, slM_eq] at hx
    have hps := part_ops (ps := ps) (P := P) fun p hp => hops p (by rw [ho]; exact hp)
    cases ht : P.underlying t with
    | none => simp only [ht] at hx; exact bad_ok hx
    | some de =>
      cases de with
      | slice e =>
        simp only [ht, byF_eq, szF_eq] at hx
        cases hi : P.info? e with
        | none => simp only [hi] at hx; exact bad_ok hx
        | some i =>
          simp only [hi] at hx
          cases hz : i.zero with
          | none => simp only [hz] at hx; exact bad_ok hx
          | some v =>
            simp only [hz] at hx
            by_cases hvs : v.cells.size = i.size
            · simp only [hvs, if_true, cif_eq] at hx
              by_cases h6 : 1000000 ≤ len * i.size
              · rw [if_pos (by simpa using h6)] at hx; exact bad_ok hx
              · rw [if_neg (by simpa using h6), zeroF_eq] at hx
                simp only [hi, hz, Option.bind_some] at hx
                have hx' : (fillAll F (ps.toList.map fun p => match (fun j => some (j * i.size, i.size)) p.1 with
                    | some (j, sz) => ⟨j, sz, opA p.2⟩
                    | none => ⟨0, 1000000, opA p.2⟩) (repL len (cellsOf (valA v))) fun l => newC e l h fun b h => k (putN d (.sl b 0 len) F) D h) = .ok r := hx
                obtain ⟨l, hl⟩ := lin_ok (lin_fillAll (fun l => lin_k l) _) hx'
                rw [hl] at hx'
                exact .inl ⟨e, l, _, mkR_bldS ho hps ht hi hz hvs (by omega) hl, hx', by rintro ⟨t', e'⟩; cases e'⟩
            · simp only [hvs, if_false] at hx; exact bad_ok hx
      | _ => simp only [ht] at hx; exact bad_ok hx
  | makeSlice t u y =>
    rw [ho] at hx
    simp only [trX, opF_eq, slM_eq] at hx
    have hu := hops u (by simp [ho, Op.operands]); have hy := hops y (by simp [ho, Op.operands])
    cases ht : P.underlying t with
    | none => simp only [ht] at hx; exact bad_ok hx
    | some de =>
      cases de with
      | slice e =>
        simp only [ht, zeroF_eq, byF_eq] at hx
        cases hi : P.info? e with
        | none => simp only [hi, Option.bind_none] at hx; exact bad_ok hx
        | some i =>
          simp only [hi, Option.bind_some] at hx
          cases hz : i.zero with
          | none => simp only [hz] at hx; exact bad_ok hx
          | some v =>
            simp only [hz] at hx
            by_cases hvs : v.cells.size = i.size
            · simp only [hvs, if_true] at hx
              have hx' : (inI (opA y F) 100000 fun c => inI (opA u F) (Nat.succ c) fun l => cif (Nat.ble (Nat.mul i.bytes c) 281474976710656) (newC e (repL c (cellsOf (valA v))) h fun b h => natF l fun l => k (putN d (.sl b 0 l) F) D h) (Ev.bad 19)) = .ok r := hx
              obtain ⟨kd, cp, hc, hlt, hx⟩ := inI_ok hx'
              obtain ⟨kd', l, hl, hle, hx⟩ := inI_ok hx
              rw [cif_eq] at hx
              rcases ite_ok hx with ⟨hby, hx⟩ | ⟨_, hx⟩
              · simp only [natF_eq] at hx
                exact .inl ⟨e, _, _, mkR_mkS ho hu hy ht hi hz hvs hc hlt hl hle (Nat.le_of_ble_eq_true hby), hx, by rintro ⟨t', e'⟩; cases e'⟩
              · exact bad_ok hx
            · simp only [hvs, if_false] at hx; exact bad_ok hx
      | _ => simp only [ht] at hx; exact bad_ok hx
  | makeMap t rs =>
    cases rs with
    | none =>
      rw [ho] at hx
      simp only [trX, slM_eq] at hx
      exact .inr ⟨⟨t, rfl⟩, hx⟩
    | some x =>
      rw [ho] at hx
      simp only [trX, slM_eq] at hx
      exact bad_ok hx
  | convert src dst x =>
    rw [ho] at hk
    simp only [kdOp] at hk
    split at hk <;> cases hk
  | call cc => 
    rw [ho] at hk
    obtain ⟨callee, args, ats⟩ := cc
    cases callee with
    | builtin b => cases b <;> simp [kdOp] at hk
    | _ => simp [kdOp] at hk
  | binOp op t x y t2 =>
    rw [ho] at hk
    simp only [kdOp] at hk
    exfalso
    revert hk
    cases P.underlying t with
    | none => intro hk; cases hk
    | some d =>
      cases d with
      | pointer e => cases Nat.beq (isNilC y) 1 <;> intro hk <;> cases hk
      | _ => intro hk; cases hk
  | _ => rw [ho] at hk; simp [kdOp] at hk
end
end Go.Ev
namespace Go.Ev
open Go Go.RowKit
variable {r : DV}
theorem wrOf_some : ∀ {rs : List Row} {t : Nat} {q : Row}, wrOf rs t = some q → q ∈ rs ∧ q.o.dst = some t
  | [], _, _, h => by cases h
  | r :: rs, t, q, h => by
    unfold wrOf at h
    cases hd : r.o.dst with
    | none => simp only [hd] at h; have := wrOf_some h; exact ⟨by simp [this.1], this.2⟩
    | some d =>
      simp only [hd] at h
      cases hb : Nat.beq d t with
      | true =>
        rw [hb] at h; cases h
        exact ⟨by simp, by rw [hd, Nat.eq_of_beq_eq_true hb]⟩
      | false => rw [hb] at h; have := wrOf_some h; exact ⟨by simp [this.1], this.2⟩
/-- What a region's operations must be. -/
structure DS (P : Program) (ops : Array Oper) : Prop where
  row : ∀ r ∈ RS ops, rowOk P ops (RS ops) r = true
  form : ∀ r ∈ RS ops, formOk P r = true
  lit : litOk P ops (RS ops) = true
  chain : chainOk ((RS ops).filter (isK P .eff)) = true
section
variable {P : Program} {ops : Array Oper}
theorem plan_ok {pl : List PI} (h : plan P ops = some pl) : DS P ops ∧ planGo P ((RS ops).filter fun r => !isK P .eff r) ((RS ops).filter (isK P .eff)) ((RS ops).filter (isK P .eff)) 0 0 [] = some pl := by
  have h' : cond ((RS ops).all (fun r => rowOk P ops (RS ops) r && formOk P r) && litOk P ops (RS ops) && chainOk ((RS ops).filter (isK P .eff)))
    (planGo P ((RS ops).filter fun r => !isK P .eff r) ((RS ops).filter (isK P .eff)) ((RS ops).filter (isK P .eff)) 0 0 []) none = some pl := h
  cases hc : ((RS ops).all (fun r => rowOk P ops (RS ops) r && formOk P r) && litOk P ops (RS ops) && chainOk ((RS ops).filter (isK P .eff))) with
  | false => rw [hc] at h'; cases h'
  | true =>
    rw [hc] at h'
    simp only [Bool.and_eq_true] at hc
    have hr := fun r hr => List.all_eq_true.1 hc.1.1 r hr
    simp only [Bool.and_eq_true] at hr
    exact ⟨⟨fun r h => (hr r h).1, fun r h => (hr r h).2, hc.1.2, hc.2⟩, h'⟩
namespace DS
variable (S : DS P ops)
include S
theorem lt {r : Row} (h : r ∈ RS ops) : ∀ e ∈ r.o.after.toList, Region.binds .any e = true → e.on < r.i := by
  have := S.row r h
  simp only [rowOk, Bool.and_eq_true] at this
  intro e he hb
  have := List.all_eq_true.1 this.1.1 e he
  simpa [hb, Nat.blt_eq] using this
theorem dst {r : Row} (h : r ∈ RS ops) {t : Nat} (hd : r.o.dst = some t) : wrOf (RS ops) t = some r := by
  have := S.row r h
  simp only [rowOk, Bool.and_eq_true] at this
  have := this.1.2
  rw [hd] at this
  simp only at this
  cases hw : wrOf (RS ops) t with
  | none => rw [hw] at this; cases this
  | some q =>
    rw [hw] at this
    rw [rs_eq (wrOf_some hw).1 h (by simpa using this)]
theorem look {r : Row} (h : r ∈ RS ops) {t : Nat} (ht : t ∈ looksO ops r.o) {q : Row} (hq : wrOf (RS ops) t = some q) : q.i ≠ r.i ∧ (hasBit r.anc q.i = true ∨ hasBit q.anc r.i = true ∧ kdOp P r.o.op ≠ .read) := by
  have := S.row r h
  simp only [rowOk, Bool.and_eq_true] at this
  have := List.all_eq_true.1 this.2 t ht
  simp only [hq, Bool.and_eq_true, Bool.or_eq_true, Bool.not_eq_true'] at this
  exact ⟨fun e => by rw [e] at this; simp at this, this.2.imp id fun h => ⟨h.1, by simpa using h.2⟩⟩
/-- What is ahead of an operation is ahead in number. -/
theorem anc_lt : ∀ (n : Nat) {r : Row}, r.i ≤ n → r ∈ RS ops → ∀ q, hasBit r.anc q = true → q < r.i := by
  intro n
  induction n with
  | zero =>
    intro r hn hr q hq
    obtain ⟨e, h1, h2, _⟩ := anc_ok hr (S.lt hr) hq
    have := S.lt hr e h1 h2
    omega
  | succ n ih =>
    intro r hn hr q hq
    obtain ⟨e, h1, h2, h3⟩ := anc_ok hr (S.lt hr) hq
    have hlt := S.lt hr e h1 h2
    rcases h3 with rfl | ⟨r', g1, g2, g3⟩
    · exact hlt
    · have := ih (r := r') (by omega) g1 q g3; omega
end DS
/-- A set of operations that holds with each what is ahead of it. -/
def Down (ops : Array Oper) (L : Nat → Bool) : Prop := ∀ r ∈ RS ops, L r.i = true → ∀ e ∈ r.o.after.toList, Region.binds .any e = true → L e.on = true
theorem DS.down (S : DS P ops) {L : Nat → Bool} (hL : Down ops L) : ∀ (n : Nat) {r : Row}, r.i ≤ n → r ∈ RS ops → (∀ e ∈ r.o.after.toList, Region.binds .any e = true → L e.on = true) → ∀ q, hasBit r.anc q = true → L q = true := by
  intro n
  induction n with
  | zero =>
    intro r hn hr hp q hq
    obtain ⟨e, h1, h2, _⟩ := anc_ok hr (S.lt hr) hq
    have := S.lt hr e h1 h2
    omega
  | succ n ih =>
    intro r hn hr hp q hq
    obtain ⟨e, h1, h2, h3⟩ := anc_ok hr (S.lt hr) hq
    have hlt := S.lt hr e h1 h2
    rcases h3 with rfl | ⟨r', g1, g2, g3⟩
    · exact hp e h1 h2
    · exact ih (r := r') (by omega) g1 (hL r' g1 (by rw [g2]; exact hp e h1 h2)) q g3
theorem DS.anc (S : DS P ops) {L : Nat → Bool} (hL : Down ops L) {r : Row} (hr : r ∈ RS ops) (h : L r.i = true) {q : Nat} (hq : hasBit r.anc q = true) : L q = true := S.down hL r.i (Nat.le_refl _) hr (hL r hr h) q hq

/-! the values -/
variable (ops) in
/-- What stands in a slot, where some have been done. -/
noncomputable def cur (V : Nat → AV) (F0 : Fr) (S : Nat → Bool) (t : Nat) : AV := match wrOf (RS ops) t with
  | some q => cond (S q.i) (V q.i) (getN t F0)
  | none => getN t F0
variable (ops) in
/-- What an operation finds in a slot. -/
noncomputable def ov (V : Nat → AV) (F0 : Fr) (r : Row) (t : Nat) : AV := match wrOf (RS ops) t with
  | some q => cond (hasBit r.anc q.i) (V q.i) (getN t F0)
  | none => getN t F0
def updV (V : Nat → AV) (i : Nat) (v : AV) : Nat → AV := fun j => if j = i then v else V j
theorem ov_upd {V : Nat → AV} {F0 : Fr} {r : Row} {i : Nat} (v : AV) (h : hasBit r.anc i = false) (t : Nat) : ov ops (updV V i v) F0 r t = ov ops V F0 r t := by
  unfold ov
  cases wrOf (RS ops) t with
  | none => rfl
  | some q =>
    simp only []
    cases hb : hasBit r.anc q.i with
    | false => rfl
    | true =>
      have : q.i ≠ i := fun e => by rw [e, h] at hb; cases hb
      simp [updV, this]
theorem looks_lt {N : Nat} {o : Oper} (hok : okOp P N ops o = true) : ∀ t ∈ looksO ops o, t < 512 := by
  intro t ht
  simp only [okOp, Bool.and_eq_true] at hok
  unfold looksO at ht
  rcases List.mem_append.1 ht with ht | ht
  · obtain ⟨u, hu, ht⟩ := List.mem_flatMap.1 ht
    have := List.all_eq_true.1 hok.1.1 u hu
    cases u with
    | tmp n => simp only [tmpsO, List.mem_singleton] at ht; subst ht; simpa [okO, Nat.blt_eq] using this
    | _ => simp [tmpsO] at ht
  · cases hg : o.guard with
    | none => rw [hg] at ht; simp at ht
    | some jw =>
      obtain ⟨j, w⟩ := jw
      rw [hg] at ht
      have h3 := hok.2
      rw [hg] at h3
      simp only at ht h3
      cases hj : (ops[j]?).bind (·.dst) with
      | none => rw [hj] at ht; simp at ht
      | some d => rw [hj] at ht h3; simp at ht; subst ht; simpa [Nat.blt_eq] using h3
/-- An operation that comes next finds what it must find. -/
theorem DS.view (S : DS P ops) {r : Row} (hr : r ∈ RS ops) {L : Nat → Bool} (h1 : ∀ q, hasBit r.anc q = true → L q = true) (h2 : ∀ q ∈ RS ops, hasBit q.anc r.i = true → L q.i = false) {V : Nat → AV} {F0 : Fr} {t : Nat} (ht : t ∈ looksO ops r.o) :
    cur ops V F0 L t = ov ops V F0 r t := by
  unfold cur ov
  cases hw : wrOf (RS ops) t with
  | none => rfl
  | some q =>
    simp only []
    obtain ⟨_, h⟩ := S.look hr ht hw
    cases hb : hasBit r.anc q.i with
    | true => rw [h1 _ hb]
    | false =>
      rw [hb] at h
      rcases h with h | ⟨h, _⟩
      · cases h
      · rw [h2 q (wrOf_some hw).1 h]
/-- What an operation finds in what it reads stays, whatever comes behind. -/
theorem DS.viewR (S : DS P ops) {r : Row} (hr : r ∈ RS ops) (hk : kdOp P r.o.op = .read) {L : Nat → Bool} (h1 : ∀ q, hasBit r.anc q = true → L q = true) {V : Nat → AV} {F0 : Fr} {t : Nat} (ht : t ∈ looksO ops r.o) :
    cur ops V F0 L t = ov ops V F0 r t := by
  unfold cur ov
  cases hw : wrOf (RS ops) t with
  | none => rfl
  | some q =>
    simp only []
    obtain ⟨_, h | ⟨_, h⟩⟩ := S.look hr ht hw
    · rw [h, h1 _ h]
    · exact absurd hk h
/-- One more is done. -/
theorem DS.cur_put (S : DS P ops) {r : Row} (hr : r ∈ RS ops) {V : Nat → AV} {F0 F : Fr} {L L' : Nat → Bool} (hL : ∀ q, L' q = (decide (q = r.i) || L q)) (hn : L r.i = false) {v : AV} (hd : ∀ d, r.o.dst = some d → d < 512) {t : Nat} (ht : t < 512) (h : getN t F = cur ops V F0 L t) :
    getN t (putD r.o.dst v F) = cur ops (updV V r.i v) F0 L' t := by
  unfold cur at h ⊢
  cases hw : wrOf (RS ops) t with
  | none =>
    rw [hw] at h
    cases hdd : r.o.dst with
    | none => exact h
    | some d =>
      have : d ≠ t := fun e => by subst e; rw [S.dst hr hdd] at hw; cases hw
      simp only [putD]
      rw [getN_putN_ne ht (hd d hdd) v F this]
      exact h
  | some q =>
    rw [hw] at h
    obtain ⟨hq, hqd⟩ := wrOf_some hw
    simp only at h ⊢
    by_cases e : q.i = r.i
    · have := rs_eq hq hr e
      subst this
      rw [hqd]
      simp only [putD, getN_putN_self]
      rw [hL]
      simp [updV]
    · have hL' : L' q.i = L q.i := by rw [hL]; simp [e]
      have hV : updV V r.i v q.i = V q.i := by simp [updV, e]
      rw [hL', hV, ← h]
      cases hdd : r.o.dst with
      | none => rfl
      | some d =>
        have : d ≠ t := fun e2 => by
          subst e2
          have := S.dst hr hdd
          rw [hw] at this; cases this
          exact e rfl
        simp only [putD]
        rw [getN_putN_ne ht (hd d hdd) v F this]
end
end Go.Ev
namespace Go.Ev
open Go Go.RowKit
variable {r : DV}
/-- A map that is made and filled: its slot, and who makes it. -/
structure LitP (P : Program) (ops : Array Oper) (s : Nat) (q0 : Row) : Prop where
  q : q0 ∈ RS ops
  qd : q0.o.dst = some s
  qo : ∃ t, q0.o.op = .makeMap t none
  ins : ∀ r ∈ RS ops, kdOp P r.o.op = .ins → r.o.guard = none ∧ hasBit r.anc q0.i = true ∧ ∃ t n v, r.o.op = .insert t (.tmp s) (.const (.int .i64 n)) v ∧ s ∉ tmpsO v ∧ ∃ kt e kd, P.underlying t = some (.map kt e) ∧ P.underlying kt = some (.int kd)
  nodup : ∀ r ∈ RS ops, ∀ r' ∈ RS ops, ∀ t n v t' v', r.o.op = .insert t (.tmp s) (.const (.int .i64 n)) v → r'.o.op = .insert t' (.tmp s) (.const (.int .i64 n)) v' → r = r'
  oth : ∀ r ∈ RS ops, kdOp P r.o.op ≠ .ins → s ∈ looksO ops r.o → ∀ q ∈ RS ops, kdOp P q.o.op = .ins → hasBit r.anc q.i = true
theorem nodupI_ok : ∀ {l : List Int}, nodupI l = true → l.Nodup
  | [], _ => .nil
  | a :: l, h => by
    simp only [nodupI, Bool.and_eq_true, Bool.not_eq_true'] at h
    refine List.nodup_cons.2 ⟨fun hm => ?_, nodupI_ok h.2⟩
    have := List.any_eq_false.1 h.1 a hm
    simp at this
theorem filterMap_inj {α β : Type} {f : α → Option β} : ∀ {l : List α}, (l.filterMap f).Nodup → ∀ {x y : α} {b : β}, x ∈ l → y ∈ l → f x = some b → f y = some b → x = y
  | [], _, _, _, _, h, _, _, _ => by cases h
  | a :: l, hn, x, y, b, hx, hy, h1, h2 => by
    cases hf : f a with
    | none =>
      rw [List.filterMap_cons_none hf] at hn
      rcases List.mem_cons.1 hx with rfl | hx'
      · rw [hf] at h1; cases h1
      · rcases List.mem_cons.1 hy with rfl | hy'
        · rw [hf] at h2; cases h2
        · exact filterMap_inj hn hx' hy' h1 h2
    | some c =>
      rw [List.filterMap_cons_some hf, List.nodup_cons] at hn
      rcases List.mem_cons.1 hx with rfl | hx'
      · rcases List.mem_cons.1 hy with rfl | hy'
        · rfl
        · rw [hf] at h1; cases h1
          exact absurd (List.mem_filterMap.2 ⟨y, hy', h2⟩) hn.1
      · rcases List.mem_cons.1 hy with rfl | hy'
        · rw [hf] at h2; cases h2
          exact absurd (List.mem_filterMap.2 ⟨x, hx', h1⟩) hn.1
        · exact filterMap_inj hn.2 hx' hy' h1 h2
section
variable {P : Program} {ops : Array Oper}
theorem insMask_bit : ∀ (rs : List Row) (m : Nat) (q : Row), (q ∈ rs ∧ kdOp P q.o.op = .ins) ∨ hasBit m q.i = true → hasBit (rs.foldl (fun m r => cond (kdOp P r.o.op == .ins) (Nat.lor m (Nat.pow 2 r.i)) m) m) q.i = true
  | [], m, q, h => by
    rcases h with ⟨h, _⟩ | h
    · cases h
    · exact h
  | a :: rs, m, q, h => by
    refine insMask_bit rs _ q ?_
    rcases h with ⟨h, hk⟩ | h
    · rcases List.mem_cons.1 h with rfl | h
      · right
        have e : (kdOp P q.o.op == Kd.ins) = true := by simp [hk]
        show hasBit (cond (kdOp P q.o.op == .ins) (Nat.lor m (Nat.pow 2 q.i)) m) q.i = true
        rw [e, cond_true, hasBit_or, hasBit_pow]; simp
      · exact .inl ⟨h, hk⟩
    · right
      show hasBit (cond (kdOp P a.o.op == .ins) (Nat.lor m (Nat.pow 2 a.i)) m) q.i = true
      cases (kdOp P a.o.op == Kd.ins) with
      | false => exact h
      | true => rw [cond_true, hasBit_or, h]; rfl
theorem insOf_some {op : Op} {s : Nat} {n : Int} {v : Operand} (h : insOf op = some (s, n, v)) : ∃ t, op = .insert t (.tmp s) (.const (.int .i64 n)) v := by
  unfold insOf at h
  split at h
  · cases h; exact ⟨_, rfl⟩
  · cases h
theorem DS.litP (S : DS P ops) : (∀ r ∈ RS ops, kdOp P r.o.op ≠ .ins) ∨ ∃ s q0, LitP P ops s q0 := by
  have h := S.lit
  unfold litOk at h
  cases hf : (RS ops).find? fun r => kdOp P r.o.op == .ins with
  | none =>
    left
    intro r hr e
    have := List.find?_eq_none.1 hf r hr
    simp [e] at this
  | some r0 =>
    right
    rw [hf] at h
    simp only at h
    cases hi : insOf r0.o.op with
    | none => rw [hi] at h; cases h
    | some snv =>
      obtain ⟨s, n0, v0⟩ := snv
      rw [hi] at h
      simp only at h
      cases hw : wrOf (RS ops) s with
      | none => rw [hw] at h; cases h
      | some q =>
        rw [hw] at h
        simp only [Bool.and_eq_true] at h
        obtain ⟨⟨h1, h2⟩, h3⟩ := h
        obtain ⟨hq, hqd⟩ := wrOf_some hw
        have hins : ∀ r ∈ RS ops, kdOp P r.o.op = .ins → r.o.guard = none ∧ hasBit r.anc q.i = true ∧ ∃ t n v, r.o.op = .insert t (.tmp s) (.const (.int .i64 n)) v ∧ s ∉ tmpsO v ∧ ∃ kt e kd, P.underlying t = some (.map kt e) ∧ P.underlying kt = some (.int kd) := by
          intro r hr hk
          have := List.all_eq_true.1 h3 r hr
          have e : (kdOp P r.o.op == Kd.ins) = true := by simp [hk]
          rw [e, cond_true] at this
          simp only [Bool.and_eq_true, Option.isNone_iff_eq_none] at this
          obtain ⟨⟨⟨g1, g2⟩, gm⟩, g3⟩ := this
          refine ⟨g1, g2, ?_⟩
          cases hi2 : insOf r.o.op with
          | none => rw [hi2] at g3; cases g3
          | some snv =>
            obtain ⟨s', n, v⟩ := snv
            rw [hi2] at g3
            simp only [Bool.and_eq_true, Nat.beq_eq, Bool.not_eq_true'] at g3
            obtain ⟨rfl, g4⟩ := g3
            obtain ⟨t, ht⟩ := insOf_some hi2
            refine ⟨t, n, v, ht, fun hm => ?_, ?_⟩
            · have := List.any_eq_false.1 g4 _ hm
              simp at this
            · rw [ht] at gm
              simp only [mapInt] at gm
              split at gm
              · rename_i kt e hu
                split at gm
                · exact ⟨kt, e, _, hu, by assumption⟩
                · cases gm
              · cases gm
        refine ⟨s, q, hq, hqd, ?_, hins, ?_, ?_⟩
        · split at h1
          · exact ⟨_, by assumption⟩
          · cases h1
        · intro r hr r' hr' t n v t' v' e e'
          refine filterMap_inj (f := fun r : Row => (insOf r.o.op).map (·.2.1)) (nodupI_ok (show nodupI ((RS ops).filterMap fun r : Row => (insOf r.o.op).map (·.2.1)) = true from h2)) hr hr' (b := n) ?_ ?_
          · simp [e, insOf]
          · simp [e', insOf]
        · intro r hr hk hs q' hq' hk'
          have := List.all_eq_true.1 h3 r hr
          have e : (kdOp P r.o.op == Kd.ins) = false := by simpa using hk
          rw [e, cond_false] at this
          simp only [Bool.or_eq_true, Bool.not_eq_true'] at this
          rcases this with g | g
          · have := List.any_eq_false.1 g _ hs
            simp at this
          · exact sub_iff.1 g _ (insMask_bit _ _ _ (.inl ⟨hq', hk'⟩))
end
end Go.Ev

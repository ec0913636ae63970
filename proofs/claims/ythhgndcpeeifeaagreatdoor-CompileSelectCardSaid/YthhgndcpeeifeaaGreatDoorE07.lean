/- Part of the proof of CompileForCardSaid. -/
import Derived.Test.YthhgndcpeeifeaaGreatDoorE06
set_option linter.unusedVariables false
set_option linter.unusedSimpArgs false
set_option linter.unusedSectionVars false
set_option linter.constructorNameAsVariable false
namespace Go.Ev
open Go Go.RowKit
section
variable {P : Program} {base N : Nat} {cl : Cl} {o : Oper} {u y c : Operand}
def HasX (P : Program) (base N : Nat) (cl : Cl) (o : Oper) : Prop := ∃ x : X, (∀ (α : Type) (k : X → α), trX P o.op k = k x) ∧ XS P base N cl x o
theorem HasX.bad {n : Nat} (h : ∀ (α : Type) (k : X → α), trX P o.op k = k (xBad n)) : HasX P base N cl o := ⟨xBad n, h, XS.bad n⟩
theorem byF_eq {α : Type} (t : TypeId) (b : α) (k : Nat → α) : byF P t b k = match P.info? t with
    | some i => match i.zero with
      | some v => if v.cells.size = i.size then k i.bytes else b
      | none => b
    | none => b := by
  unfold byF
  cases P.info? t with
  | none => rfl
  | some i => cases hz : i.zero with
    | none => simp [hz]
    | some v => simp [hz]
theorem zeroF_eq {α : Type} (t : TypeId) (b : α) (k : List AV → α) : zeroF P t b k = match (P.info? t).bind (·.zero) with
    | some v => k (cellsOf (valA v))
    | none => b := by unfold zeroF; rw [zeroVF_eq]; cases (P.info? t).bind (·.zero) <;> rfl
theorem zero_some {t : TypeId} {v : Value} (h : (P.info? t).bind (·.zero) = some v) : ∃ i, P.info? t = some i ∧ i.zero = some v := by
  cases hi : P.info? t with
  | none => rw [hi] at h; cases h
  | some i => rw [hi] at h; exact ⟨i, rfl, h⟩
theorem depth2 : ∃ n, P.depth = n + 2 := ⟨_, rfl⟩
theorem guard_flat {t : TypeId} {fs : Array Field} {ks : List Nat} (ht : P.underlying t = some (.struct fs)) (hf : flatO P t = some ks) : P.eqGuardType P.depth t = false := by
  obtain ⟨n, hn⟩ := depth2 (P := P)
  rw [hn]
  rcases flatO_ok hf with ⟨fs', h1, h2, h3⟩ | ⟨_, _, _, _, h1, _⟩
  · rw [ht] at h1; cases h1
    have key : ∀ (fs : List Field) (m : Nat) (ks : List Nat), leafs P fs m = some ks → ∀ f ∈ fs, P.eqGuardType (n + 1) f.type = false := by
      intro fs
      induction fs with
      | nil => intro m ks _ f hf; cases hf
      | cons f fs ih =>
        intro m ks h g hg
        obtain ⟨kd, ks', rfl, g1, g2, _⟩ := leafs_cons h
        rcases List.mem_cons.1 hg with rfl | hg
        · unfold kdOf at g1
          unfold Program.eqGuardType
          split at g1 <;> first
            | (rename_i hu; simp [hu]; done)
            | cases g1
        · exact ih _ _ g2 g hg
    unfold Program.eqGuardType
    simp only [ht]
    rw [Array.any_eq_false']
    intro f hf
    have := key fs.toList 0 ks h3 f (by simpa using hf)
    simp [this]
  · rw [ht] at h1; cases h1
theorem bin_has {op : BinOp} {t t2 : TypeId} (ho : o.op = .binOp op t u y t2) (hu : okO P u = true) (hy : okO P y = true) : HasX P base N cl o := by
  unfold HasX
  rw [ho]
  have e1 : ∀ (α : Type) (k : X → α), trX P (.binOp op t u y t2) k = binX P op t (opA u) (opA y) (isNilC y) k := fun α k => by simp only [trX, opF_eq]
  have oth : ∀ neg : Bool, op = (if neg then .neq else .eql) → (∀ d, P.underlying t = some d → d ≠ .string ∧ ∀ kd, d ≠ .int kd) → ∃ x : X, (∀ (α : Type) (k : X → α), trX P (.binOp op t u y t2) k = k x) ∧ XS P base N cl x o := by
    intro neg hop hd
    have bad66 : (∀ (α : Type) (k : X → α), trX P (.binOp op t u y t2) k = k (xBad 66)) → ∃ x : X, (∀ (α : Type) (k : X → α), trX P (.binOp op t u y t2) k = k x) ∧ XS P base N cl x o := fun h => ⟨_, h, XS.bad 66⟩
    subst hop
    have nl : ∀ kd : Nat, (Nat.beq (isNilC y) kd = false → ∀ (α : Type) (k : X → α), trX P (.binOp (if neg then .neq else .eql) t u y t2) k = k (xBad 66)) → (Nat.beq (isNilC y) kd = true → (∀ (α : Type) (k : X → α), trX P (.binOp (if neg then .neq else .eql) t u y t2) k = k (xNl kd neg (opA u))) ∧ XS P base N cl (xNl kd neg (opA u)) o) →
        ∃ x : X, (∀ (α : Type) (k : X → α), trX P (.binOp (if neg then .neq else .eql) t u y t2) k = k x) ∧ XS P base N cl x o := fun kd h1 h2 => by
      cases hh : Nat.beq (isNilC y) kd with
      | false => exact bad66 (h1 hh)
      | true => exact ⟨_, h2 hh⟩
    have nilc : ∀ kd, Nat.beq (isNilC y) kd = true → kd < 5 → (kd = 0 → y = .const (.slice none 0 0)) ∧ (kd = 1 → y = .const (.pointer none)) ∧ (kd = 2 → y = .const (.map none)) ∧ (kd = 3 → y = .const .nilFunc) ∧ (kd = 4 → y = .const .nilIface) := by
      intro kd h hlt
      have h' : isNilC y = kd := Nat.eq_of_beq_eq_true h
      subst h'
      revert hlt
      unfold isNilC
      split <;> intro hlt <;> first | omega | simp
    cases hu' : P.underlying t with
    | none => exact bad66 fun α k => by rw [e1]; unfold binX; rw [hu']; cases neg <;> rfl
    | some d =>
      have hd' := hd d hu'
      cases d with
      | bool => exact ⟨_, fun α k => by rw [e1]; unfold binX; rw [hu']; cases neg <;> rfl, keqB_ok ho hu hy hu'⟩
      | string => exact absurd rfl hd'.1
      | int kd => exact absurd rfl (hd'.2 kd)
      | struct fs =>
        obtain ⟨n, hn⟩ := depth2 (P := P)
        have hk : ∀ (α : Type) (k : X → α), trX P (.binOp (if neg then .neq else .eql) t u y t2) k = keyF P t (k (xBad 66)) fun q _ => k (xKeq q neg (opA u) (opA y)) := fun α k => by
          rw [e1]; unfold binX; rw [hu', hn]; cases neg <;> rfl
        cases hf : flatO P t with
        | none => exact bad66 fun α k => by rw [hk, keyF_eq]; simp [Ev.keyOf, hu', hf]
        | some ks => exact ⟨xKeq (eqKg ks) neg (opA u) (opA y), fun α k => by rw [hk, keyF_eq]; simp [Ev.keyOf, hu', hf], keqG_ok ho hu hy hf (guard_flat hu' hf)⟩
      | slice e => exact nl 0 (fun h α k => by rw [e1]; unfold binX; rw [hu']; cases neg <;> (show cif (Nat.beq (isNilC y) 0) _ _ = _; rw [h]; rfl)) fun h => ⟨fun α k => by rw [e1]; unfold binX; rw [hu']; cases neg <;> (show cif (Nat.beq (isNilC y) 0) _ _ = _; rw [h]; rfl), nl_ok ho hu hu' (.inl ⟨rfl, ⟨_, rfl⟩, (nilc 0 h (by omega)).1 rfl⟩)⟩
      | pointer e =>
        cases hh : Nat.beq (isNilC y) 1 with
        | true =>
          exact ⟨_, fun α k => by rw [e1]; unfold binX; rw [hu']; cases neg <;> (show cif (Nat.beq (isNilC y) 1) _ _ = _; rw [hh]; rfl), nl_ok ho hu hu' (.inr (.inl ⟨rfl, ⟨_, rfl⟩, (nilc 1 hh (by omega)).2.1 rfl⟩))⟩
        | false =>
          have sz : ∀ (α : Type) (k : X → α), trX P (.binOp (if neg then .neq else .eql) t u y t2) k = szF P e (k (xBad 66)) fun n => cif (Nat.beq n 0) (k (xBad 66)) (k (xPq (noByte P) neg (opA u) (opA y))) := fun α k => by
            rw [e1]; unfold binX; rw [hu']; cases neg <;> (show cif (Nat.beq (isNilC y) 1) _ _ = _; rw [hh]; rfl)
          cases hi : P.info? e with
          | none => exact bad66 fun α k => by rw [sz, szF_eq, hi]
          | some i =>
            by_cases hz : i.size = 0
            · exact bad66 fun α k => by rw [sz, szF_eq, hi]; simp [hz]
            · exact ⟨_, fun α k => by rw [sz, szF_eq, hi]; simp [hz], pq_ok ho hu hy hu' hi hz⟩
      | map e f => exact nl 2 (fun h α k => by rw [e1]; unfold binX; rw [hu']; cases neg <;> (show cif (Nat.beq (isNilC y) 2) _ _ = _; rw [h]; rfl)) fun h => ⟨fun α k => by rw [e1]; unfold binX; rw [hu']; cases neg <;> (show cif (Nat.beq (isNilC y) 2) _ _ = _; rw [h]; rfl), nl_ok ho hu hu' (.inr (.inr (.inl ⟨rfl, ⟨_, _, rfl⟩, (nilc 2 h (by omega)).2.2.1 rfl⟩)))⟩
      | func e f g => exact nl 3 (fun h α k => by rw [e1]; unfold binX; rw [hu']; cases neg <;> (show cif (Nat.beq (isNilC y) 3) _ _ = _; rw [h]; rfl)) fun h => ⟨fun α k => by rw [e1]; unfold binX; rw [hu']; cases neg <;> (show cif (Nat.beq (isNilC y) 3) _ _ = _; rw [h]; rfl), nl_ok ho hu hu' (.inr (.inr (.inr (.inl ⟨rfl, ⟨_, _, _, rfl⟩, (nilc 3 h (by omega)).2.2.2.1 rfl⟩))))⟩
      | interface e => exact nl 4 (fun h α k => by rw [e1]; unfold binX; rw [hu']; cases neg <;> (show cif (Nat.beq (isNilC y) 4) _ _ = _; rw [h]; rfl)) fun h => ⟨fun α k => by rw [e1]; unfold binX; rw [hu']; cases neg <;> (show cif (Nat.beq (isNilC y) 4) _ _ = _; rw [h]; rfl), nl_ok ho hu hu' (.inr (.inr (.inr (.inr ⟨rfl, ⟨_, rfl⟩, (nilc 4 h (by omega)).2.2.2.2 rfl⟩))))⟩
      | _ => exact bad66 fun α k => by rw [e1]; unfold binX; rw [hu']; cases neg <;> rfl
  have no : ∀ n, (∀ (α : Type) (k : X → α), trX P (.binOp op t u y t2) k = k (xBad n)) → ∃ x : X, (∀ (α : Type) (k : X → α), trX P (.binOp op t u y t2) k = k x) ∧ XS P base N cl x o := fun n h => ⟨_, h, XS.bad n⟩
  have rest : (∀ d, P.underlying t = some d → d ≠ .string ∧ ∀ kd, d ≠ .int kd) → ∃ x : X, (∀ (α : Type) (k : X → α), trX P (.binOp op t u y t2) k = k x) ∧ XS P base N cl x o := fun hd => by
    by_cases h1 : op = .eql
    · exact oth false h1 hd
    · by_cases h2 : op = .neq
      · exact oth true h2 hd
      · refine no 66 fun α k => ?_
        rw [e1]; unfold binX
        cases hu' : P.underlying t with
        | none => cases op <;> first | rfl | exact absurd rfl h1 | exact absurd rfl h2
        | some d =>
          have := hd d hu'
          cases d with
          | string => exact absurd rfl this.1
          | int kd => exact absurd rfl (this.2 kd)
          | _ => cases op <;> first | rfl | exact absurd rfl h1 | exact absurd rfl h2
  cases hd : P.underlying t with
  | none => exact rest fun d h => by rw [hd] at h; cases h
  | some d =>
    cases d with
    | string =>
      cases op with
      | add => exact ⟨_, fun α k => by rw [e1]; unfold binX; rw [hd], cat_ok ho hu hy⟩
      | eql => exact ⟨_, fun α k => by rw [e1]; unfold binX; rw [hd], seq_ok (neg := false) ho hu hy⟩
      | neq => exact ⟨_, fun α k => by rw [e1]; unfold binX; rw [hd], seq_ok (neg := true) ho hu hy⟩
      | _ => exact no 65 (fun α k => by rw [e1]; unfold binX; rw [hd])
    | int kd =>
      cases op with
      | add => exact ⟨_, fun α k => by rw [e1]; unfold binX; rw [hd], i2_ok iadd ho hu hy fun kd m n w => by rw [iadd_eq]; simp [binOp, Op.intArith]⟩
      | sub => exact ⟨_, fun α k => by rw [e1]; unfold binX; rw [hd], i2_ok isub ho hu hy fun kd m n w => by rw [isub_eq]; simp [binOp, Op.intArith]⟩
      | mul => exact ⟨_, fun α k => by rw [e1]; unfold binX; rw [hd], i2_ok Int.mul ho hu hy fun kd m n w => by simp [binOp, Op.intArith]⟩
      | quo => exact ⟨_, fun α k => by rw [e1]; unfold binX; rw [hd], div_ok ho hu hy⟩
      | rem => exact ⟨_, fun α k => by rw [e1]; unfold binX; rw [hd], rem_ok ho hu hy⟩
      | eql => exact ⟨_, fun α k => by rw [e1]; unfold binX; rw [hd], ie_ok (neg := false) ho hu hy⟩
      | neq => exact ⟨_, fun α k => by rw [e1]; unfold binX; rw [hd], ie_ok (neg := true) ho hu hy⟩
      | lss => exact ⟨_, fun α k => by rw [e1]; unfold binX; rw [hd], cmp_ok ho hu hy fun kd m n w => by simp only [binOp, Op.intCmp, cmpB, ne_eq, not_true, if_false, Sem.run_pure, if_true]; congr 2; rw [Bool.eq_iff_iff]; simp⟩
      | leq => exact ⟨_, fun α k => by rw [e1]; unfold binX; rw [hd], cmp_ok ho hu hy fun kd m n w => by simp [binOp, Op.intCmp, cmpB]⟩
      | gtr => exact ⟨_, fun α k => by rw [e1]; unfold binX; rw [hd], cmp_ok ho hu hy fun kd m n w => by simp only [binOp, Op.intCmp, cmpB, ne_eq, not_true, if_false, Sem.run_pure, if_true]; congr 2; rw [Bool.eq_iff_iff]; simp⟩
      | geq => exact ⟨_, fun α k => by rw [e1]; unfold binX; rw [hd], cmp_ok ho hu hy fun kd m n w => by simp [binOp, Op.intCmp, cmpB]⟩
      | and => exact ⟨_, fun α k => by rw [e1]; unfold binX; rw [hd], and_ok ho hu hy⟩
      | or => exact ⟨_, fun α k => by rw [e1]; unfold binX; rw [hd], or_ok ho hu hy⟩
      | shl => exact ⟨_, fun α k => by rw [e1]; unfold binX; rw [hd], shl_ok ho hu hy⟩
      | shr => exact ⟨_, fun α k => by rw [e1]; unfold binX; rw [hd], shr_ok ho hu hy⟩
      | _ => exact no 64 (fun α k => by rw [e1]; unfold binX; rw [hd])
    | _ => exact rest fun d h => by rw [hd] at h; cases h; exact ⟨by simp, by simp⟩
theorem call_has (hcl : ClOk P base cl) {cc : Call} (ho : o.op = .call cc) (hops : ∀ p ∈ o.op.operands.toList, okO P p = true) : HasX P base N cl o := by
  have ha : ∀ p ∈ cc.args.toList, okO P p = true := fun p hp => hops p (by rw [ho]; simp [Op.operands, Call.operands]; exact .inr (by simpa using hp))
  unfold HasX
  rw [ho]
  obtain ⟨callee, args, ats⟩ := cc
  simp only at ha
  cases callee with
  | value f =>
    cases f with
    | func f => exact ⟨_, fun α k => by simp only [trX, opsF_eq], call_ok hcl ho rfl ha⟩
    | tmp n => exact ⟨_, fun α k => by simp only [trX, opF_eq, opsF_eq], callV_ok hcl ho rfl (hops _ (by rw [ho]; simp [Op.operands, Call.operands])) ha⟩
    | const v => exact ⟨_, fun α k => by simp only [trX, opF_eq, opsF_eq], callV_ok hcl ho rfl (hops _ (by rw [ho]; simp [Op.operands, Call.operands])) ha⟩
    | global g => exact ⟨_, fun α k => by simp only [trX, opF_eq, opsF_eq], callV_ok hcl ho rfl (hops _ (by rw [ho]; simp [Op.operands, Call.operands])) ha⟩
  | invoke rv m => exact ⟨xBad 63, fun α k => rfl, XS.bad _⟩
  | builtin b =>
    obtain ⟨args⟩ := args
    simp only at ha
    have one : ∀ x, args = [x] → (⟨args⟩ : Array Operand) = #[x] := fun x h => by rw [h]
    have two : ∀ x y, args = [x, y] → (⟨args⟩ : Array Operand) = #[x, y] := fun x y h => by rw [h]
    cases b with
    | len =>
      match args, ha with
      | [], _ => exact ⟨xBad 62, fun α k => rfl, XS.bad _⟩
      | [x], ha =>
        have hx := ha x (by simp)
        cases ht : (ats[0]?).bind P.underlying with
        | none => exact ⟨xBad 60, fun α k => by simp only [trX, ht], XS.bad _⟩
        | some d =>
          cases d with
          | array n e => exact ⟨_, fun α k => by simp only [trX, ht], lenA_ok ho rfl rfl ht⟩
          | string => exact ⟨_, fun α k => by simp only [trX, ht, opF_eq], lenS_ok (t := 0) ho rfl rfl hx ht⟩
          | slice e => exact ⟨_, fun α k => by simp only [trX, ht, opF_eq], lenL_ok (t := 0) ho rfl rfl hx ht⟩
          | map e f => exact ⟨_, fun α k => by simp only [trX, ht, opF_eq], lenM_ok ho rfl rfl hx ht⟩
          | _ => exact ⟨xBad 60, fun α k => by simp only [trX, ht], XS.bad _⟩
      | _ :: _ :: _, _ => exact ⟨xBad 62, fun α k => rfl, XS.bad _⟩
    | append =>
      match args, ha with
      | [x, y], ha =>
        have hx := ha x (by simp)
        have hy := ha y (by simp)
        cases ht : (ats[0]?).bind P.underlying with
        | none => exact ⟨xBad 60, fun α k => by simp only [trX, ht], XS.bad _⟩
        | some d =>
          cases d with
          | slice e =>
            cases ht2 : (ats[1]?).bind P.underlying with
            | none => exact ⟨xBad 60, fun α k => by simp only [trX, ht, ht2], XS.bad _⟩
            | some d2 =>
              have main : ((∃ z, d2 = .slice z) ∨ d2 = .string) → ∃ x', (∀ (α : Type) (k : X → α), trX P (.call { callee := .builtin .append, args := #[x, y], argTypes := ats }) k = k x') ∧ XS P base N cl x' o := fun hd2 => by
                have e1 : ∀ (α : Type) (k : X → α), trX P (.call { callee := .builtin .append, args := #[x, y], argTypes := ats }) k =
                    szF P e (k (xBad 60)) fun sz => byF P e (k (xBad 60)) fun z => cif (Nat.beq sz 0) (k (xBad 60)) (k (xApp e sz z (opA x) (opA y))) := fun α k => by
                  rcases hd2 with ⟨z, rfl⟩ | rfl <;> simp only [trX, ht, ht2, opF_eq]
                obtain ⟨t, ht0, hut⟩ := Option.bind_eq_some_iff.1 ht
                obtain ⟨t2, ht02, hut2⟩ := Option.bind_eq_some_iff.1 ht2
                cases hi : P.info? e with
                | none => exact ⟨xBad 60, fun α k => by rw [e1, szF_eq, hi], XS.bad _⟩
                | some i =>
                  cases hz : i.zero with
                  | none => exact ⟨xBad 60, fun α k => by rw [e1, szF_eq]; simp only [byF_eq, hi, hz], XS.bad _⟩
                  | some v =>
                    by_cases hvs : v.cells.size = i.size
                    · by_cases h0 : i.size = 0
                      · exact ⟨xBad 60, fun α k => by rw [e1, szF_eq]; simp only [byF_eq, hi, hz, hvs, if_true, h0, cif_eq]; rfl, XS.bad _⟩
                      · exact ⟨_, fun α k => by rw [e1, szF_eq]; simp only [byF_eq, hi, hz, hvs, if_true, cif_eq]; rw [if_neg (by simpa using h0)], app_ok ho rfl rfl hx hy ht0 ht02 hut hut2 hd2 hi hz hvs h0⟩
                    · exact ⟨xBad 60, fun α k => by rw [e1, szF_eq]; simp only [byF_eq, hi, hz, hvs, if_false], XS.bad _⟩
              cases d2 with
              | slice z => exact main (.inl ⟨z, rfl⟩)
              | string => exact main (.inr rfl)
              | _ => exact ⟨xBad 60, fun α k => by simp only [trX, ht, ht2], XS.bad _⟩
          | _ => exact ⟨xBad 60, fun α k => by simp only [trX, ht], XS.bad _⟩
      | [], _ => exact ⟨xBad 62, fun α k => rfl, XS.bad _⟩
      | [_], _ => exact ⟨xBad 62, fun α k => rfl, XS.bad _⟩
      | _ :: _ :: _ :: _, _ => exact ⟨xBad 62, fun α k => rfl, XS.bad _⟩
    | copy =>
      match args, ha with
      | [x, y], ha =>
        have hx := ha x (by simp)
        have hy := ha y (by simp)
        cases ht : (ats[0]?).bind P.underlying with
        | none => exact ⟨xBad 61, fun α k => by simp only [trX, ht], XS.bad _⟩
        | some d =>
          cases d with
          | slice e =>
            obtain ⟨t, ht0, hut⟩ := Option.bind_eq_some_iff.1 ht
            cases hi : P.info? e with
            | none => exact ⟨xBad 61, fun α k => by simp only [trX, ht, opF_eq, szF_eq, hi], XS.bad _⟩
            | some i => exact ⟨_, fun α k => by simp only [trX, ht, opF_eq, szF_eq, hi], cpy_ok ho rfl rfl hx hy ht0 hut hi⟩
          | _ => exact ⟨xBad 61, fun α k => by simp only [trX, ht], XS.bad _⟩
      | [], _ => exact ⟨xBad 62, fun α k => rfl, XS.bad _⟩
      | [_], _ => exact ⟨xBad 62, fun α k => rfl, XS.bad _⟩
      | _ :: _ :: _ :: _, _ => exact ⟨xBad 62, fun α k => rfl, XS.bad _⟩
    | min =>
      match args, ha with
      | [x, y], ha => exact ⟨_, fun α k => by simp only [trX, opF_eq], min_ok ho rfl rfl (ha x (by simp)) (ha y (by simp))⟩
      | [], _ => exact ⟨xBad 62, fun α k => rfl, XS.bad _⟩
      | [_], _ => exact ⟨xBad 62, fun α k => rfl, XS.bad _⟩
      | _ :: _ :: _ :: _, _ => exact ⟨xBad 62, fun α k => rfl, XS.bad _⟩
    | max =>
      match args, ha with
      | [x, y], ha => exact ⟨_, fun α k => by simp only [trX, opF_eq], max_ok ho rfl rfl (ha x (by simp)) (ha y (by simp))⟩
      | [], _ => exact ⟨xBad 62, fun α k => rfl, XS.bad _⟩
      | [_], _ => exact ⟨xBad 62, fun α k => rfl, XS.bad _⟩
      | _ :: _ :: _ :: _, _ => exact ⟨xBad 62, fun α k => rfl, XS.bad _⟩
    | _ => exact ⟨xBad 62, fun α k => rfl, XS.bad _⟩
theorem cvSS_ok {src dst : TypeId} (ho : o.op = .convert src dst u) (hu : okO P u = true) (hs : P.underlying src = some .string) (hd : P.underlying dst = some .string) : XS P base N cl (xCvS (opA u)) o := .pure fun F h k ρ w a fr s hx => by
  have rc := opA_ok fr s hu
  have fin : ∀ str : ByteArray, a.eval u = .string str → (execOp a.eval o).run P w = .ok (.value (a.eval u)) w := fun str he => by simp [execOp, ho, convert, run_under hs, run_under hd, he]
  rcases strE_ok hx with ⟨n, c, hb, hx⟩ | ⟨_, hx⟩
  · have rc' := rc
    rw [hb] at rc; simp only [RV] at rc
    obtain ⟨str, he, h1, h2⟩ := rc
    exact ⟨_, _, hb ▸ rc', hx, fin str he⟩
  · cases hu' : opA u F with
    | y q =>
      simp only [hu', cif_eq] at hx
      rcases ite_ok hx with ⟨hq, hx⟩ | ⟨_, hx⟩
      · obtain ⟨A, B, M, _, _, e, odd⟩ := RV_odd s
        rw [hu'] at rc
        exact ⟨_, _, rc, hx, fin _ (odd q _ rc hq)⟩
      · exact bad_ok hx
    | _ => simp only [hu'] at hx; exact bad_ok hx
theorem part_ops {ps : Array (Nat × Operand)} (h : ∀ p ∈ (ps.toList.map (·.2)).toArray.toList, okO P p = true) : ∀ p ∈ ps.toList, okO P p.2 = true := fun p hp => h _ (by simpa using ⟨p.1, by simpa using hp⟩)
theorem opt_ops {x : Option Operand} (h : ∀ p ∈ x.toArray.toList, okO P p = true) : okOO P x = true := by
  cases x with
  | none => rfl
  | some x => exact h x (by simp)
/-- Every operation is sound. -/
theorem ops_ok (hcl : ClOk P base cl) : Ops P base cl := fun N ops o hok => by
  have hops : ∀ p ∈ o.op.operands.toList, okO P p = true := by
    simp only [okOp, Bool.and_eq_true] at hok
    exact fun p hp => List.all_eq_true.1 hok.1.1 p hp
  clear hok
  show HasX P base N cl o
  cases ho : o.op with
  | move x => exact ⟨_, fun α k => by rw [ho]; simp only [trX, opF_eq], mv_ok (.inl ho) (hops x (by simp [ho, Op.operands]))⟩
  | assign x => exact ⟨_, fun α k => by rw [ho]; simp only [trX, opF_eq], mv_ok (.inr ho) (hops x (by simp [ho, Op.operands]))⟩
  | pick c a b => exact ⟨_, fun α k => by rw [ho]; simp only [trX, opF_eq], pick_ok ho (hops c (by simp [ho, Op.operands])) (hops a (by simp [ho, Op.operands])) (hops b (by simp [ho, Op.operands]))⟩
  | alloc e =>
    cases hz : (P.info? e).bind (·.zero) with
    | none => exact ⟨xBad 41, fun α k => by rw [ho]; simp only [trX, zeroF_eq, hz], XS.bad _⟩
    | some v =>
      obtain ⟨i, h1, h2⟩ := zero_some hz
      exact ⟨_, fun α k => by rw [ho]; simp only [trX, zeroF_eq, hz], al_ok ho h1 h2⟩
  | box e x => exact ⟨_, fun α k => by rw [ho]; simp only [trX, opF_eq], box_ok ho (hops x (by simp [ho, Op.operands]))⟩
  | build t ps =>
    have hps := part_ops (ps := ps) (P := P) fun p hp => hops p (by rw [ho]; exact hp)
    cases hf : fldsOk P t with
    | false => exact ⟨xBad 42, fun α k => by rw [ho]; simp only [trX, hf]; rfl, XS.bad _⟩
    | true =>
      cases hz : (P.info? t).bind (·.zero) with
      | none => exact ⟨xBad 42, fun α k => by rw [ho]; simp only [trX, hf, zeroF_eq, hz]; rfl, XS.bad _⟩
      | some v =>
        obtain ⟨i, h1, h2⟩ := zero_some hz
        by_cases h6 : 1000000 ≤ (cellsOf (valA v)).length
        · exact ⟨xBad 42, fun α k => by rw [ho]; simp only [trX, hf, zeroF_eq, hz, lenL_eq, cif_eq]; rw [if_pos trivial, if_pos (by simpa using h6)], XS.bad _⟩
        · have hb := bld_ok (N := N) (base := base) (cl := cl) ho hps h1 h2 hf (by omega)
          exact ⟨_, fun α k => by rw [ho]; simp only [trX, hf, zeroF_eq, hz, lenL_eq, cif_eq, partsF_eq]; rw [if_pos trivial, if_neg (by simpa using h6)] <;> rfl, hb⟩
  | buildSlice t len ps =>
    have hps := part_ops (ps := ps) (P := P) fun p hp => hops p (by rw [ho]; exact hp)
    have e1 : ∀ (α : Type) (k : X → α), trX P o.op k = match P.underlying t with
        | some (.slice e) => byF P e (k (xBad 43)) fun _ => szF P e (k (xBad 43)) fun sz => cif (Nat.ble 1000000 (Nat.mul len sz)) (k (xBad 43)) <| zeroF P e (k (xBad 43)) fun z => partsF (fun i => some (i * sz, sz)) ps.toList fun ps => k (xBldS e len z ps)
        | _ => k (xBad 50) := fun α k => by rw [ho]; rfl
    cases ht : P.underlying t with
    | none => exact ⟨xBad 50, fun α k => by rw [e1]; simp only [ht], XS.bad _⟩
    | some d =>
      cases d with
      | slice e =>
        cases hi : P.info? e with
        | none => exact ⟨xBad 43, fun α k => by rw [e1]; simp only [ht, byF_eq, hi], XS.bad _⟩
        | some i =>
          cases hz : i.zero with
          | none => exact ⟨xBad 43, fun α k => by rw [e1]; simp only [ht, byF_eq, hi, hz], XS.bad _⟩
          | some v =>
            by_cases hvs : v.cells.size = i.size
            · by_cases h6 : 1000000 ≤ len * i.size
              · exact ⟨xBad 43, fun α k => by rw [e1]; simp only [ht, byF_eq, szF_eq, hi, hz, hvs, if_true, cif_eq]; rw [if_pos (by simpa using h6)], XS.bad _⟩
              · exact ⟨_, fun α k => by rw [e1]; simp only [ht, byF_eq, szF_eq, hi, hz, hvs, if_true, cif_eq, zeroF_eq, Option.bind_some, partsF_eq]; rw [if_neg (by simpa using h6)], bldS_ok ho hps ht hi hz hvs (by omega)⟩
            · exact ⟨xBad 43, fun α k => by rw [e1]; simp only [ht, byF_eq, hi, hz, hvs, if_false], XS.bad _⟩
      | _ => exact ⟨xBad 50, fun α k => by rw [e1]; simp only [ht], XS.bad _⟩
  | insert t m i v =>
    have hm := hops m (by simp [ho, Op.operands]); have hi := hops i (by simp [ho, Op.operands]); have hv := hops v (by simp [ho, Op.operands])
    cases ht : P.underlying t with
    | none => exact ⟨xBad 48, fun α k => by rw [ho]; simp only [trX, opF_eq, ht], XS.bad _⟩
    | some d =>
      cases d with
      | map kt e =>
        cases hk : Ev.keyOf P kt with
        | none => exact ⟨xBad 48, fun α k => by rw [ho]; simp only [trX, opF_eq, ht, keyF_eq, hk], XS.bad _⟩
        | some qf => obtain ⟨q, f⟩ := qf; exact ⟨_, fun α k => by rw [ho]; simp only [trX, opF_eq, ht, keyF_eq, hk], mu_ok (.inl ho) hm hi hv ht (keyOf_ok hk)⟩
      | _ => exact ⟨xBad 48, fun α k => by rw [ho]; simp only [trX, opF_eq, ht], XS.bad _⟩
  | mapUpdate t m i v =>
    have hm := hops m (by simp [ho, Op.operands]); have hi := hops i (by simp [ho, Op.operands]); have hv := hops v (by simp [ho, Op.operands])
    cases ht : P.underlying t with
    | none => exact ⟨xBad 48, fun α k => by rw [ho]; simp only [trX, opF_eq, ht], XS.bad _⟩
    | some d =>
      cases d with
      | map kt e =>
        cases hk : Ev.keyOf P kt with
        | none => exact ⟨xBad 48, fun α k => by rw [ho]; simp only [trX, opF_eq, ht, keyF_eq, hk], XS.bad _⟩
        | some qf => obtain ⟨q, f⟩ := qf; exact ⟨_, fun α k => by rw [ho]; simp only [trX, opF_eq, ht, keyF_eq, hk], mu_ok (.inr ho) hm hi hv ht (keyOf_ok hk)⟩
      | _ => exact ⟨xBad 48, fun α k => by rw [ho]; simp only [trX, opF_eq, ht], XS.bad _⟩
  | load t a =>
    have ha := hops a (by simp [ho, Op.operands])
    cases hg : agOf P t with
    | none => exact ⟨xBad 44, fun α k => by rw [ho]; simp only [trX, opF_eq, agF_eq, hg], XS.bad _⟩
    | some g =>
      cases g with
      | true =>
        cases hi : P.info? t with
        | none => exact ⟨xBad 44, fun α k => by rw [ho]; simp only [trX, opF_eq, agF_eq, hg, szF_eq, hi]; rfl, XS.bad _⟩
        | some i => exact ⟨_, fun α k => by rw [ho]; simp only [trX, opF_eq, agF_eq, hg, szF_eq, hi]; rfl, ldN_ok ho ha hg hi⟩
      | false => exact ⟨_, fun α k => by rw [ho]; simp only [trX, opF_eq, agF_eq, hg]; rfl, ld1_ok ho ha hg⟩
  | store t a x =>
    have ha := hops a (by simp [ho, Op.operands]); have hx := hops x (by simp [ho, Op.operands])
    cases hi : P.info? t with
    | none => exact ⟨xBad 45, fun α k => by rw [ho]; simp only [trX, opF_eq, szF_eq, hi], XS.bad _⟩
    | some i =>
      cases hg : agOf P t with
      | none => exact ⟨xBad 45, fun α k => by rw [ho]; simp only [trX, opF_eq, szF_eq, hi, agF_eq, hg], XS.bad _⟩
      | some g =>
        cases g with
        | true => exact ⟨_, fun α k => by rw [ho]; simp only [trX, opF_eq, szF_eq, hi, agF_eq, hg]; rfl, stN_ok ho ha hx hi⟩
        | false =>
          by_cases h1 : i.size = 1
          · exact ⟨_, fun α k => by rw [ho]; simp only [trX, opF_eq, szF_eq, hi, agF_eq, hg, h1]; rfl, st1_ok ho ha hx hi h1⟩
          · exact ⟨xBad 45, fun α k => by rw [ho]; simp only [trX, opF_eq, szF_eq, hi, agF_eq, hg, cif_eq]; rw [if_neg (by simp), if_neg (by simpa using h1)], XS.bad _⟩
  | nilCheck x => exact ⟨_, fun α k => by rw [ho]; simp only [trX, opF_eq], nil_ok ho (hops x (by simp [ho, Op.operands]))⟩
  | binOp op t x y t2 => exact bin_has ho (hops x (by simp [ho, Op.operands])) (hops y (by simp [ho, Op.operands]))
  | unOp op t x =>
    have hx := hops x (by simp [ho, Op.operands])
    cases op with
    | not => exact ⟨_, fun α k => by rw [ho]; simp only [trX, opF_eq], not_ok ho hx⟩
    | neg => exact ⟨_, fun α k => by rw [ho]; simp only [trX, opF_eq], neg_ok ho hx⟩
    | _ => exact ⟨xBad 67, fun α k => by rw [ho]; simp only [trX, opF_eq], XS.bad _⟩
  | convert src dst x =>
    have hx := hops x (by simp [ho, Op.operands])
    have e1 : ∀ (α : Type) (k : X → α), trX P o.op k = match P.underlying src, P.underlying dst with
        | some (.int _), some (.int kd) => limF kd fun lm => k (xCvI kd lm (opA x))
        | some .string, some .string => k (xCvS (opA x))
        | some (.slice e), some .string => match P.underlying e with
          | some (.int .u8) => k (xCvBS (opA x))
          | _ => k (xBad 51)
        | some .string, some (.slice e) => match P.underlying e with
          | some (.int .u8) => szF P e (k (xBad 51)) fun sz => cif (Nat.beq sz 1) (k (xCvSB e (opA x))) (k (xBad 51))
          | _ => k (xBad 51)
        | _, _ => k (xBad 51) := fun α k => by rw [ho]; show opF x _ = _; rw [opF_eq]; rfl
    cases hs : P.underlying src with
    | none => exact ⟨xBad 51, fun α k => by rw [e1]; simp only [hs], XS.bad _⟩
    | some s =>
      cases hd : P.underlying dst with
      | none => exact ⟨xBad 51, fun α k => by rw [e1]; simp only [hs, hd], XS.bad _⟩
      | some d =>
        cases s with
        | int k0 =>
          cases d with
          | int kd => exact ⟨_, fun α k => by rw [e1]; simp only [hs, hd, limF_eq], cvI_ok ho hs hd hx⟩
          | _ => exact ⟨xBad 51, fun α k => by rw [e1]; simp only [hs, hd], XS.bad _⟩
        | string =>
          cases d with
          | string => exact ⟨_, fun α k => by rw [e1]; simp only [hs, hd], cvSS_ok ho hx hs hd⟩
          | slice e =>
            cases he : P.underlying e with
            | none => exact ⟨xBad 51, fun α k => by rw [e1]; simp only [hs, hd, he], XS.bad _⟩
            | some de =>
              cases de with
              | int ke =>
                cases ke with
                | u8 =>
                  cases hi : P.info? e with
                  | none => exact ⟨xBad 51, fun α k => by rw [e1]; simp only [hs, hd, he, szF_eq, hi], XS.bad _⟩
                  | some i =>
                    by_cases h1 : i.size = 1
                    · exact ⟨_, fun α k => by rw [e1]; simp only [hs, hd, he, szF_eq, hi, h1]; rfl, cvSB_ok ho hx hs hd he (by simp [Program.cellsOf, hi, h1])⟩
                    · exact ⟨xBad 51, fun α k => by rw [e1]; simp only [hs, hd, he, szF_eq, hi, cif_eq]; rw [if_neg (by simpa using h1)], XS.bad _⟩
                | _ => exact ⟨xBad 51, fun α k => by rw [e1]; simp only [hs, hd, he], XS.bad _⟩
              | _ => exact ⟨xBad 51, fun α k => by rw [e1]; simp only [hs, hd, he], XS.bad _⟩
          | _ => exact ⟨xBad 51, fun α k => by rw [e1]; simp only [hs, hd], XS.bad _⟩
        | slice e =>
          cases d with
          | string =>
            cases he : P.underlying e with
            | none => exact ⟨xBad 51, fun α k => by rw [e1]; simp only [hs, hd, he], XS.bad _⟩
            | some de =>
              cases de with
              | int ke =>
                cases ke with
                | u8 => exact ⟨_, fun α k => by rw [e1]; simp only [hs, hd, he], cvBS_ok ho hx hs hd he⟩
                | _ => exact ⟨xBad 51, fun α k => by rw [e1]; simp only [hs, hd, he], XS.bad _⟩
              | _ => exact ⟨xBad 51, fun α k => by rw [e1]; simp only [hs, hd, he], XS.bad _⟩
          | _ => exact ⟨xBad 51, fun α k => by rw [e1]; simp only [hs, hd], XS.bad _⟩
        | _ => exact ⟨xBad 51, fun α k => by rw [e1]; simp only [hs, hd], XS.bad _⟩
  | makeInterface t x =>
    have hx := hops x (by simp [ho, Op.operands])
    cases ht : P.underlying t with
    | none => exact ⟨xBad 47, fun α k => by rw [ho]; simp only [trX, opF_eq, ht], XS.bad _⟩
    | some d =>
      have hc : (∀ ms, d ≠ .interface ms) → P.concrete t = true := fun h => by
        unfold Program.concrete; rw [ht]
        cases d <;> first | rfl | exact absurd rfl (h _)
      cases d with
      | interface ms => exact ⟨xBad 47, fun α k => by rw [ho]; simp only [trX, opF_eq, ht], XS.bad _⟩
      | _ => exact ⟨_, fun α k => by rw [ho]; simp only [trX, opF_eq, ht], mkI_ok ho hx (hc fun ms => by simp)⟩
  | makeFunc fn a b => exact ⟨_, fun α k => by rw [ho]; simp only [trX, opsF_eq], mkF_ok ho (fun p hp => hops p (by rw [ho]; simp only [Op.operands, Array.toList_append]; exact List.mem_append_left _ hp)) (fun p hp => hops p (by rw [ho]; simp only [Op.operands, Array.toList_append]; exact List.mem_append_right _ hp))⟩
  | makeMap t rs =>
    cases rs with
    | none => exact ⟨_, fun α k => by rw [ho]; rfl, mkM_ok ho⟩
    | some x => exact ⟨xBad 63, fun α k => by rw [ho]; rfl, XS.bad _⟩
  | makeSlice t l c =>
    have hl := hops l (by simp [ho, Op.operands]); have hc := hops c (by simp [ho, Op.operands])
    cases ht : P.underlying t with
    | none => exact ⟨xBad 52, fun α k => by rw [ho]; simp only [trX, ht], XS.bad _⟩
    | some d =>
      cases d with
      | slice e =>
        cases hi : P.info? e with
        | none => exact ⟨xBad 52, fun α k => by rw [ho]; simp only [trX, ht, zeroF_eq, hi, Option.bind_none], XS.bad _⟩
        | some i =>
          cases hz : i.zero with
          | none => exact ⟨xBad 52, fun α k => by rw [ho]; simp only [trX, ht, zeroF_eq, hi, Option.bind_some, hz], XS.bad _⟩
          | some v =>
            by_cases hvs : v.cells.size = i.size
            · exact ⟨_, fun α k => by rw [ho]; simp only [trX, ht, zeroF_eq, byF_eq, hi, Option.bind_some, hz, hvs, if_true, opF_eq], mkS_ok ho hl hc ht hi hz hvs⟩
            · exact ⟨xBad 52, fun α k => by rw [ho]; simp only [trX, ht, zeroF_eq, byF_eq, hi, Option.bind_some, hz, hvs, if_false], XS.bad _⟩
      | _ => exact ⟨xBad 52, fun α k => by rw [ho]; simp only [trX, ht], XS.bad _⟩
  | slice t x lo hi mx =>
    cases mx with
    | some m => exact ⟨xBad 63, fun α k => by rw [ho]; rfl, XS.bad _⟩
    | none =>
      have hx := hops x (by simp [ho, Op.operands])
      have hlo := opt_ops (x := lo) (P := P) fun p hp => hops p (by rw [ho]; simp only [Op.operands, Array.toList_append, List.mem_append]; exact .inl (.inl (.inr hp)))
      have hhi := opt_ops (x := hi) (P := P) fun p hp => hops p (by rw [ho]; simp only [Op.operands, Array.toList_append, List.mem_append]; exact .inl (.inr hp))
      cases ht : P.underlying t with
      | none => exact ⟨xBad 53, fun α k => by rw [ho]; simp only [trX, opF_eq, oopF_eq, ht], XS.bad _⟩
      | some d =>
        cases d with
        | string => exact ⟨_, fun α k => by rw [ho]; simp only [trX, opF_eq, oopF_eq, ht], slS_ok ho hx hlo hhi ht⟩
        | slice e =>
          cases hi' : P.info? e with
          | none => exact ⟨xBad 53, fun α k => by rw [ho]; simp only [trX, opF_eq, oopF_eq, ht, szF_eq, hi'], XS.bad _⟩
          | some i => exact ⟨_, fun α k => by rw [ho]; simp only [trX, opF_eq, oopF_eq, ht, szF_eq, hi'], slL_ok ho hx hlo hhi ht hi'⟩
        | _ => exact ⟨xBad 53, fun α k => by rw [ho]; simp only [trX, opF_eq, oopF_eq, ht], XS.bad _⟩
  | fieldAddr t x f =>
    have hx := hops x (by simp [ho, Op.operands])
    cases hf : fldOf P t f with
    | none => exact ⟨xBad 54, fun α k => by rw [ho]; simp only [trX, opF_eq, hf], XS.bad _⟩
    | some fd =>
      cases hi : P.info? fd.type with
      | none => exact ⟨xBad 54, fun α k => by rw [ho]; simp only [trX, opF_eq, hf, szF_eq, hi], XS.bad _⟩
      | some i =>
        by_cases h0 : i.size = 0
        · exact ⟨xBad 54, fun α k => by rw [ho]; simp only [trX, opF_eq, hf, szF_eq, hi, h0]; rfl, XS.bad _⟩
        · exact ⟨_, fun α k => by rw [ho]; simp only [trX, opF_eq, hf, szF_eq, hi, cif_eq, natF_eq]; rw [if_neg (by simpa using h0)], fa_ok ho hx hf hi h0⟩
  | field t x f =>
    have hx := hops x (by simp [ho, Op.operands])
    cases hf : fldOf P t f with
    | none => exact ⟨xBad 55, fun α k => by rw [ho]; simp only [trX, opF_eq, hf], XS.bad _⟩
    | some fd =>
      cases hg : agOf P fd.type with
      | none => exact ⟨xBad 55, fun α k => by rw [ho]; simp only [trX, opF_eq, hf, agF_eq, hg], XS.bad _⟩
      | some g =>
        cases hi : P.info? fd.type with
        | none => exact ⟨xBad 55, fun α k => by rw [ho]; simp only [trX, opF_eq, hf, agF_eq, hg, szF_eq, hi], XS.bad _⟩
        | some i => exact ⟨_, fun α k => by rw [ho]; simp only [trX, opF_eq, hf, agF_eq, hg, szF_eq, hi, natF_eq], fd_ok ho hx hf hg hi⟩
  | indexAddr t x y =>
    have hx := hops x (by simp [ho, Op.operands]); have hy := hops y (by simp [ho, Op.operands])
    cases ht : P.underlying t with
    | none => exact ⟨xBad 56, fun α k => by rw [ho]; simp only [trX, opF_eq, ht], XS.bad _⟩
    | some d =>
      cases d with
      | slice e =>
        cases hi : P.info? e with
        | none => exact ⟨xBad 56, fun α k => by rw [ho]; simp only [trX, opF_eq, ht, szF_eq, hi], XS.bad _⟩
        | some i => exact ⟨_, fun α k => by rw [ho]; simp only [trX, opF_eq, ht, szF_eq, hi], iaS_ok ho hx hy ht hi⟩
      | array n e =>
        cases hi : P.info? e with
        | none => exact ⟨xBad 56, fun α k => by rw [ho]; simp only [trX, opF_eq, ht, szF_eq, hi], XS.bad _⟩
        | some i => exact ⟨_, fun α k => by rw [ho]; simp only [trX, opF_eq, ht, szF_eq, hi], iaA_ok ho hx hy ht hi⟩
      | _ => exact ⟨xBad 56, fun α k => by rw [ho]; simp only [trX, opF_eq, ht], XS.bad _⟩
  | index t x y =>
    have hx := hops x (by simp [ho, Op.operands]); have hy := hops y (by simp [ho, Op.operands])
    cases ht : P.underlying t with
    | none => exact ⟨xBad 57, fun α k => by rw [ho]; simp only [trX, opF_eq, ht], XS.bad _⟩
    | some d =>
      cases d with
      | string => exact ⟨_, fun α k => by rw [ho]; simp only [trX, opF_eq, ht], ixS_ok ho hx hy ht⟩
      | array n e =>
        cases hg : agOf P e with
        | none => exact ⟨xBad 57, fun α k => by rw [ho]; simp only [trX, opF_eq, ht, agF_eq, hg], XS.bad _⟩
        | some g =>
          cases hi : P.info? e with
          | none => exact ⟨xBad 57, fun α k => by rw [ho]; simp only [trX, opF_eq, ht, agF_eq, hg, szF_eq, hi], XS.bad _⟩
          | some i => exact ⟨_, fun α k => by rw [ho]; simp only [trX, opF_eq, ht, agF_eq, hg, szF_eq, hi], ixA_ok ho hx hy ht hg hi⟩
      | _ => exact ⟨xBad 57, fun α k => by rw [ho]; simp only [trX, opF_eq, ht], XS.bad _⟩
  | lookup t m i ok =>
    have hm := hops m (by simp [ho, Op.operands]); have hi := hops i (by simp [ho, Op.operands])
    cases ht : P.underlying t with
    | none => exact ⟨xBad 58, fun α k => by rw [ho]; simp only [trX, opF_eq, ht], XS.bad _⟩
    | some d =>
      cases d with
      | map kt e =>
        cases hz : (P.info? e).bind (·.zero) with
        | none => exact ⟨xBad 58, fun α k => by rw [ho]; simp only [trX, opF_eq, ht, zeroVF_eq, hz], XS.bad _⟩
        | some v =>
          obtain ⟨ie, h1, h2⟩ := zero_some hz
          cases hk : Ev.keyOf P kt with
          | none => exact ⟨xBad 58, fun α k => by rw [ho]; simp only [trX, opF_eq, ht, zeroVF_eq, hz, keyF_eq, hk], XS.bad _⟩
          | some qf => obtain ⟨q, f⟩ := qf; exact ⟨_, fun α k => by rw [ho]; simp only [trX, opF_eq, ht, zeroVF_eq, hz, keyF_eq, hk], lk_ok ho hm hi ht (keyOf_ok hk) h1 h2⟩
      | _ => exact ⟨xBad 58, fun α k => by rw [ho]; simp only [trX, opF_eq, ht], XS.bad _⟩
  | typeAssert x t0 t ok =>
    have hx := hops x (by simp [ho, Op.operands])
    cases ht : P.underlying t with
    | none => exact ⟨xBad 59, fun α k => by rw [ho]; simp only [trX, opF_eq, ht], XS.bad _⟩
    | some d =>
      cases hz : (P.info? t).bind (·.zero) with
      | none =>
        cases d with
        | _ => exact ⟨xBad 59, fun α k => by rw [ho]; simp only [trX, opF_eq, ht, zeroVF_eq, hz], XS.bad _⟩
      | some v =>
        obtain ⟨ie, h1, h2⟩ := zero_some hz
        cases d with
        | interface ms => exact ⟨xBad 59, fun α k => by rw [ho]; simp only [trX, opF_eq, ht], XS.bad _⟩
        | _ => exact ⟨_, fun α k => by rw [ho]; simp only [trX, opF_eq, ht, zeroVF_eq, hz], ta_ok ho hx ht (by simp) h1 h2⟩
  | extract x i => exact ⟨_, fun α k => by rw [ho]; simp only [trX, opF_eq], ext_ok ho (hops x (by simp [ho, Op.operands]))⟩
  | call cc => exact call_has hcl ho hops
  | _ => exact ⟨xBad 63, fun α k => by rw [ho]; rfl, XS.bad _⟩
end
end Go.Ev

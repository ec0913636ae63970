/- Part of the proof of CompileForCardSaid. -/
import Derived.Test.YthhgndcpeeifeaaGreatDoorE03
import Derived.Test.YthhgndcpeeifeaaGreatDoorE02
set_option linter.unusedVariables false
set_option linter.unusedSimpArgs false
set_option linter.unusedSectionVars false
set_option linter.constructorNameAsVariable false
namespace Go.Ev
open Go Go.RowKit
variable {r : DV}
section
variable {P : Program} {base N : Nat} {cl : Cl}
theorem wp_mono {c : Code} {Q Q' : Exit → Act → World → Prop} {a : Act} {w : World} (h : c.wp P Q a w) (hq : ∀ e a' w', Q e a' w' → Q' e a' w') : c.wp P Q' a w := fun b k cs =>
  let ⟨e, a', w', q, r⟩ := h b k cs; ⟨e, a', w', hq e a' w' q, r⟩
theorem mdwp_mono {md : Md} {c : Code} {Q Q' : Exit → Act → World → Prop} {a : Act} {w : World} (h : md.wp P c Q a w) (hq : ∀ e a' w', Q e a' w' → Q' e a' w') : md.wp P c Q' a w := fun b k cs =>
  let ⟨e, a', w', q, r⟩ := h b k cs; ⟨e, a', w', hq e a' w' q, r⟩
theorem QR.mono {ρ ρ1 : Rn} {h h1 : Hp} {w w1 : World} {k : KR} (st : Stp P base ρ h w ρ1 h1 w1) {a : Act} {w' : World} (q : QR r P base N ρ1 h1 w1 k a w') : QR r P base N ρ h w k a w' := by
  obtain ⟨ρ', F', D', h', q2, q3, q4, q5⟩ := q
  exact ⟨ρ', F', D', h', q2, q3, st.trans q4, q5⟩
theorem oiF_eq {α : Type} (o : OI) (k : OI → α) : oiF o k = k o := by cases o <;> rfl
theorem mapF_oi {β : Type} (f : β → OI) : ∀ (l : List β) (k : List OI → OL), mapF l (fun o k => oiF (f o) k) k = k (l.map f)
  | [], k => rfl
  | x :: r, k => by
    show oiF (f x) (fun y => mapF r (fun o k => oiF (f o) k) fun l => k (y :: l)) = _
    rw [oiF_eq, mapF_oi f r]; rfl
/-- A region that runs in the text's order: from its i-th operation on. -/
theorem text_ok (hX : Ops P base cl) {ops : Array Oper} (hok : ∀ o ∈ ops.toList, okOp P N ops o = true) {k : KR} {Q : Exit → Act → World → Prop} :
    ∀ (l : List Oper) (i : Nat), ops.toList.drop i = l → ∀ (F : Fr) (D : List Dfr) (h : Hp) (ρ : Rn) (w : World) (a : Act), FR P ρ N F a → DR P ρ D a.defers → Sim P base ρ h w →
    evOps cl k (l.map (trOp P ops)) F D h = .ok r → (∀ a' w', QR r P base N ρ h w k a' w' → Q .normal a' w') → wpOps P ops Q (List.range' i l.length) a w
  | [], i, hl, F, D, h, ρ, w, a, fr, dr, s, hx, hQ => hQ _ _ ⟨ρ, F, D, h, fr, dr, .refl s, hx⟩
  | o :: l, i, hl, F, D, h, ρ, w, a, fr, dr, s, hx, hQ => by
    have hi : ops[i]? = some o := by
      have : (ops.toList.drop i)[0]? = some o := by rw [hl]; rfl
      rw [List.getElem?_drop] at this
      simpa using this
    have hm : o ∈ ops.toList := by
      have : o ∈ ops.toList.drop i := by rw [hl]; simp
      exact List.mem_of_mem_drop this
    have hl' : ops.toList.drop (i + 1) = l := by
      have := congrArg (List.drop 1) hl
      simpa [List.drop_drop, Nat.add_comm] using this
    rw [List.map_cons, evOps_cons] at hx
    have key := op_ok hX (hok o hm) fr dr s hx (next := wpOps P ops Q (List.range' (i + 1) l.length)) (Q := Q) (by
      intro a' w' q _
      obtain ⟨ρ', F', D', h', fr', dr', st, hk⟩ := q
      exact text_ok hX hok l (i + 1) hl' F' D' h' ρ' w' a' fr' dr' st.sim hk fun a'' w'' q' => hQ _ _ (q'.mono st))
    show wpOps P ops Q (List.range' i (l.length + 1)) a w
    rw [List.range'_succ]
    simp only [wpOps, hi]
    split
    · rename_i hw; rw [if_pos hw] at key; exact .inl key
    · rename_i hw; rw [if_neg hw] at key; exact key
/-- A region that draws its order. -/
def Draws (P : Program) (base : Nat) (cl : Cl) : Prop := ∀ {r : DV} (N id : Nat) (ops : Array Oper) (k : KR) (F : Fr) (D : List Dfr) (h : Hp) (ρ : Rn) (w : World) (a : Act) (Q : Exit → Act → World → Prop),
  (∀ o ∈ ops.toList, okOp P N ops o = true) → FR P ρ N F a → DR P ρ D a.defers → Sim P base ρ h w → evOps cl k (trD P ops) F D h = .ok r →
  (∀ a' w', QR r P base N ρ h w k a' w' → Q .normal a' w') → (Code.region id ops true).wp P Q a w
theorem QC.of {ρ : Rn} {h : Hp} {w : World} {k : KC} {e : Ex} {ex : Exit} (hr : ExR e ex) {a : Act} {w' : World} (q : QR r P base N ρ h w (k e) a w') : QC r P base N ρ h w k ex a w' := by
  obtain ⟨ρ', F', D', h', q2, q3, q4, q5⟩ := q
  exact ⟨e, ρ', F', D', h', hr, q2, q3, q4, q5⟩
theorem evC_ok (hcl : ClOk P base cl) (hX : Ops P base cl) (hD : Draws P base cl) : ∀ (c : Code) (F : Fr) (D : List Dfr) (h : Hp) (k : KC) (ρ : Rn) (w : World) (a : Act),
    okC P N c = true → FR P ρ N F a → DR P ρ D a.defers → Sim P base ρ h w → evC P c cl F D h k = .ok r → c.wp P (QC r P base N ρ h w k) a w
  | .skip, F, D, h, k, ρ, w, a, ho, fr, dr, s, hx => wp_skip ⟨.normal, ρ, F, D, h, rfl, fr, dr, .refl s, hx⟩
  | .region id ops false, F, D, h, k, ρ, w, a, ho, fr, dr, s, hx => by
    have hx' : OL.rec (motive := fun _ => Res) (fun l => evOps cl (k .normal) l F D h) (trR P ops false) = .ok _ := hx
    have e : trR P ops false = OL.mk (ops.toList.map (trOp P ops)) := mapF_oi (trOp P ops) ops.toList OL.mk
    rw [e] at hx'
    refine wp_region ?_
    have hok : ∀ o ∈ ops.toList, okOp P N ops o = true := fun o hm => List.all_eq_true.1 ho o hm
    have := text_ok hX hok ops.toList 0 rfl F D h ρ w a fr dr s hx' (Q := QC r P base N ρ h w k) fun a' w' q => QC.of (e := .normal) rfl q
    rw [List.range_eq_range']
    simpa using this
  | .region id ops true, F, D, h, k, ρ, w, a, ho, fr, dr, s, hx => by
    have hx' : OL.rec (motive := fun _ => Res) (fun l => evOps cl (k .normal) l F D h) (trR P ops true) = .ok _ := hx
    have e : trR P ops true = OL.mk (trD P ops) := by
      show mapF (trD P ops) (fun o k => oiF o k) OL.mk = _
      have := mapF_oi (fun o : OI => o) (trD P ops) OL.mk
      rw [this, List.map_id']
    rw [e] at hx'
    exact hD N id ops (k .normal) F D h ρ w a _ (fun o hm => List.all_eq_true.1 ho o hm) fr dr s hx' fun a' w' q => QC.of (e := .normal) rfl q
  | .seq x y, F, D, h, k, ρ, w, a, ho, fr, dr, s, hx => by
    simp only [okC, Bool.and_eq_true] at ho
    refine wp_seq (wp_mono (evC_ok hcl hX hD x F D h _ ρ w a ho.1 fr dr s hx) ?_)
    rintro ex a' w' ⟨e, ρ', F', D', h', he, fr', dr', st, hk⟩
    cases e with
    | normal => cases he; exact wp_mono (evC_ok hcl hX hD y F' D' h' k ρ' w' a' ho.2 fr' dr' st.sim hk) fun _ _ _ q => q.mono st
    | exit i => cases he; exact ⟨.exit i, ρ', F', D', h', rfl, fr', dr', st, hk⟩
    | goto l => cases he; exact ⟨.goto l, ρ', F', D', h', rfl, fr', dr', st, hk⟩
    | ret => cases he; exact ⟨.ret, ρ', F', D', h', rfl, fr', dr', st, hk⟩
  | .cond c x y, F, D, h, k, ρ, w, a, ho, fr, dr, s, hx => by
    simp only [okC, Bool.and_eq_true] at ho
    have hx' : Bx.rec (motive := fun _ => Res) (fun o => asB (o F) fun b => cif b (evC P x cl F D h k) (evC P y cl F D h k)) (opF c Bx.mk) = .ok _ := hx
    rw [opF_eq] at hx'
    obtain ⟨b, hb, hx'⟩ := asB_ok hx'
    have rb := opA_ok fr s ho.1.1
    rw [hb] at rb; simp only [RV] at rb
    refine wp_cond rb ?_
    rw [cif_eq] at hx'
    cases b with
    | true => exact evC_ok hcl hX hD x F D h k ρ w a ho.1.2 fr dr s hx'
    | false => exact evC_ok hcl hX hD y F D h k ρ w a ho.2 fr dr s hx'
  | .block id b, F, D, h, k, ρ, w, a, ho, fr, dr, s, hx => by
    refine wp_block (wp_mono (evC_ok hcl hX hD b F D h _ ρ w a ho fr dr s hx) ?_)
    rintro ex a' w' ⟨e, ρ', F', D', h', he, fr', dr', st, hk⟩
    cases e with
    | normal => cases he; exact ⟨.normal, ρ', F', D', h', rfl, fr', dr', st, hk⟩
    | exit i =>
      cases he
      have hk' : cif (Nat.beq i id) (k .normal F' D' h') (k (.exit i) F' D' h') = .ok _ := hk
      rw [cif_eq] at hk'
      show (if i = id then _ else _)
      by_cases e : i = id
      · rw [if_pos e]
        subst e
        simp at hk'
        exact ⟨.normal, ρ', F', D', h', rfl, fr', dr', st, hk'⟩
      · rw [if_neg e]
        rw [if_neg (by simpa using e)] at hk'
        exact ⟨.exit i, ρ', F', D', h', rfl, fr', dr', st, hk'⟩
    | goto l => cases he; exact ⟨.goto l, ρ', F', D', h', rfl, fr', dr', st, hk⟩
    | ret => cases he; exact ⟨.ret, ρ', F', D', h', rfl, fr', dr', st, hk⟩
  | .loop b, F, D, h, k, ρ, w, a, ho, fr, dr, s, hx => wp_of_loop (hcl.code N (.loop b) b F D h k ρ w a ho (by rintro b' (e | e) <;> cases e; exact ho) fr dr s hx)
  | .scope b, F, D, h, k, ρ, w, a, ho, fr, dr, s, hx => wp_of_scope (hcl.code N (.scope b) b F D h k ρ w a ho (by rintro b' (e | e) <;> cases e; exact ho) fr dr s hx)
  | .rangeFunc .., F, D, h, k, ρ, w, a, ho, fr, dr, s, hx => bad_ok hx
  | .exit i, F, D, h, k, ρ, w, a, ho, fr, dr, s, hx => wp_exit ⟨.exit i, ρ, F, D, h, rfl, fr, dr, .refl s, hx⟩
  | .label l, F, D, h, k, ρ, w, a, ho, fr, dr, s, hx => wp_label ⟨.normal, ρ, F, D, h, rfl, fr, dr, .refl s, hx⟩
  | .goto l, F, D, h, k, ρ, w, a, ho, fr, dr, s, hx => wp_goto ⟨.goto l, ρ, F, D, h, rfl, fr, dr, .refl s, hx⟩
  | .ret, F, D, h, k, ρ, w, a, ho, fr, dr, s, hx => wp_ret ⟨.ret, ρ, F, D, h, rfl, fr, dr, .refl s, hx⟩
  | .refuse y, F, D, h, k, ρ, w, a, ho, fr, dr, s, hx => bad_ok hx
theorem findLabel_okC : ∀ (c : Code) (l : Nat) (r : Code), findLabel c l = some r → okC P N c = true → okC P N r = true
  | .seq x y, l, r, hf, ho => by
    simp only [okC, Bool.and_eq_true] at ho
    unfold findLabel at hf
    cases hx : findLabel x l with
    | some r' =>
      rw [hx] at hf; cases hf
      simp only [okC, Bool.and_eq_true]
      exact ⟨findLabel_okC x l r' hx ho.1, ho.2⟩
    | none => rw [hx] at hf; exact findLabel_okC y l r hf ho.2
  | .label l', l, r, hf, ho => by
    unfold findLabel at hf
    split at hf <;> cases hf; rfl
  | .skip, _, _, hf, _ | .region .., _, _, hf, _ | .cond .., _, _, hf, _ | .block .., _, _, hf, _ | .loop .., _, _, hf, _ | .scope .., _, _, hf, _ | .rangeFunc .., _, _, hf, _ | .exit .., _, _, hf, _ | .goto .., _, _, hf, _ | .ret, _, _, hf, _ | .refuse .., _, _, hf, _ => by cases hf
theorem codeA_ok (hcl : ClOk P base cl) (hX : Ops P base cl) (hD : Draws P base cl) (md : Md) (c : Code) (F : Fr) (D : List Dfr) (h : Hp) (k : KC) (ρ : Rn) (w : World) (a : Act)
    (ho : okC P N c = true) (hb : ∀ b, md = .scope b ∨ md = .loop b → okC P N b = true) (fr : FR P ρ N F a) (dr : DR P ρ D a.defers) (s : Sim P base ρ h w)
    (hx : codeA P cl md c F D h k = .ok r) : md.wp P c (QC r P base N ρ h w k) a w := by
  cases md with
  | plain => exact md_plain (evC_ok hcl hX hD c F D h k ρ w a ho fr dr s hx)
  | loop b =>
    refine md_loop (wp_mono (evC_ok hcl hX hD c F D h _ ρ w a ho fr dr s hx) ?_)
    rintro ex a' w' ⟨e, ρ', F', D', h', he, fr', dr', st, hk⟩
    cases e with
    | normal => cases he; exact mdwp_mono (hcl.code N (.loop b) b F' D' h' k ρ' w' a' (hb b (.inr rfl)) hb fr' dr' st.sim hk) fun _ _ _ q => q.mono st
    | exit i => cases he; exact ⟨.exit i, ρ', F', D', h', rfl, fr', dr', st, hk⟩
    | goto l => cases he; exact ⟨.goto l, ρ', F', D', h', rfl, fr', dr', st, hk⟩
    | ret => cases he; exact ⟨.ret, ρ', F', D', h', rfl, fr', dr', st, hk⟩
  | scope b =>
    refine md_scope (wp_mono (evC_ok hcl hX hD c F D h _ ρ w a ho fr dr s hx) ?_)
    rintro ex a' w' ⟨e, ρ', F', D', h', he, fr', dr', st, hk⟩
    cases e with
    | normal => cases he; exact ⟨.normal, ρ', F', D', h', rfl, fr', dr', st, hk⟩
    | exit i => cases he; exact ⟨.exit i, ρ', F', D', h', rfl, fr', dr', st, hk⟩
    | goto l =>
      cases he
      have hk' : (match findLabel b l with
        | some rest => cl.code (.scope b) rest F' D' h' k
        | none => k (.goto l) F' D' h') = .ok r := hk
      unfold Exit.jumps
      cases hf : findLabel b l with
      | some rest =>
        simp only [hf] at hk' ⊢
        exact mdwp_mono (hcl.code N (.scope b) rest F' D' h' k ρ' w' a' (findLabel_okC b l rest hf (hb b (.inl rfl))) hb fr' dr' st.sim hk') fun _ _ _ q => q.mono st
      | none =>
        simp only [hf] at hk' ⊢
        exact ⟨.goto l, ρ', F', D', h', rfl, fr', dr', st, hk'⟩
    | ret => cases he; exact ⟨.ret, ρ', F', D', h', rfl, fr', dr', st, hk⟩
end
end Go.Ev
namespace Go.Ev
open Go Go.RowKit
variable {r : DV}
section
variable {P : Program} {base N : Nat} {cl : Cl}
/-! a function's letters at its start -/
theorem getN_u3 (n : Nat) : getN n u3 = .u := by
  simp only [getN, u3, u2, u1]
  have : ∀ {α : Type} (x : α) (n : Nat), (T8.all x).at (dg (Nat.mod n 8)) = x := fun x n => by
    generalize dg (Nat.mod n 8) = d
    cases d <;> rfl
  have t : ∀ {α : Type} (x : α) (d : D8), (T8.all x).at d = x := fun x d => by cases d <;> rfl
  simp only [T8.mod, t]
theorem argsIn_get : ∀ (l : List AV) (i : Nat) (F : Fr) (n : Nat), n < 512 → i + l.length ≤ 512 →
    getN n (argsIn l i F) = if i ≤ n ∧ n < i + l.length then l.getD (n - i) .u else getN n F
  | [], i, F, n, hn, hi => by
    rw [if_neg (by simp only [List.length_nil]; omega)]
    rfl
  | a :: l, i, F, n, hn, hi => by
    simp only [List.length_cons] at hi
    have e : argsIn (a :: l) i F = argsIn l (i + 1) (putN i a F) := by
      show argsIn l (Nat.succ i) (slM i fun s => s a F) = _
      rw [slM_eq]
    rw [e, argsIn_get l (i + 1) _ n hn (by omega)]
    by_cases h1 : i + 1 ≤ n ∧ n < i + 1 + l.length
    · rw [if_pos h1, if_pos (by simp only [List.length_cons]; omega)]
      have : n - i = (n - (i + 1)) + 1 := by omega
      rw [this, List.getD_cons_succ]
    · rw [if_neg h1]
      by_cases h2 : n = i
      · subst h2
        rw [getN_putN_self, if_pos (by simp only [List.length_cons]; omega), Nat.sub_self]; rfl
      · rw [getN_putN_ne hn (by omega) _ _ (Ne.symm h2), if_neg (by simp only [List.length_cons]; omega)]
theorem FR.start {ρ : Rn} {args : List AV} {args' : Array Value} (rl : RL P ρ args args'.toList) (h5 : args.length ≤ 512) (hN : args.length ≤ N) :
    FR P ρ N (argsIn args 0 u3) { tmps := args' ++ Array.replicate (N - args'.size) undef, defers := [] } := by
  have hl := rl.length
  simp only [Array.length_toList] at hl
  refine ⟨by simp only [Array.size_append, Array.size_replicate]; omega, fun n hn => ?_⟩
  rw [argsIn_get args 0 u3 n hn (by omega)]
  by_cases h : n < args.length
  · rw [if_pos ⟨Nat.zero_le _, by omega⟩]
    obtain ⟨v, h1, h2⟩ := rl.get n h
    have e : (args' ++ Array.replicate (N - args'.size) undef)[n]? = some v := by
      rw [Array.getElem?_append_left (by omega)]
      simpa using h1
    have : Act.eval { tmps := args' ++ Array.replicate (N - args'.size) undef, defers := [] } (.tmp n) = v := by
      have g : ∀ (x : Array Value) (v : Value), x[n]? = some v → x.getD n undef = v := fun x v h => by simp [Array.getD]; split <;> simp_all
      exact g _ _ e
    rw [this, Nat.sub_zero]; exact h2
  · rw [if_neg (by omega), getN_u3]
    simp only [RV]

/-! what a function hands back -/
theorem run_mapM {β : Type} {f : β → Sem Value} {w : World} : ∀ (l : List β) (l' : List Value), l.length = l'.length → (∀ (j : Nat) x v, l[j]? = some x → l'[j]? = some v → (f x).run P w = .ok v w) → (l.mapM f).run P w = .ok l' w
  | [], [], _, _ => by simp
  | x :: l, v :: l', h, hh => by
    have h0 := hh 0 x v rfl rfl
    have h1 := run_mapM l l' (by simpa using h) fun j y u hy hu => hh (j + 1) y u hy hu
    simp [List.mapM_cons, h0, h1]
def resOne (tmps : Array Value) : ResultVar → Sem Value
  | .tmp t => pure (tmps.getD t undef)
  | .cell a t => do loadVar t (← asAddr (tmps.getD a undef))
theorem resOf_ok {ρ : Rn} {F : Fr} {a : Act} {h : Hp} {w : World} (fr : FR P ρ N F a) (s : Sim P base ρ h w) : ∀ (rs : List ResultVar) (k : List AV → Res), okR rs = true → resOf P rs F h k = .ok r →
    ∃ l l', RL P ρ l l' ∧ k l = .ok r ∧ rs.length = l'.length ∧ ∀ (j : Nat) x v, rs[j]? = some x → l'[j]? = some v → (resOne a.tmps x).run P w = .ok v w
  | [], k, _, hx => ⟨[], [], by simp [RL], hx, rfl, fun j x v h => by simp at h⟩
  | rv0 :: rs, k, ho, hx => by
    have ho' : okR rs = true := by simp only [okR, List.all_cons, Bool.and_eq_true] at ho ⊢; exact ho.2
    have join : ∀ (v : AV) (v' : Value), RV P ρ v v' → (resOne a.tmps rv0).run P w = .ok v' w → resOf P rs F h (fun l => k (v :: l)) = .ok r →
        ∃ l l', RL P ρ l l' ∧ k l = .ok r ∧ (rv0 :: rs).length = l'.length ∧ ∀ (j : Nat) x v, (rv0 :: rs)[j]? = some x → l'[j]? = some v → (resOne a.tmps x).run P w = .ok v w := by
      intro v v' rv hr hk
      obtain ⟨l, l', h1, h2, h3, h4⟩ := resOf_ok fr s rs _ ho' hk
      refine ⟨v :: l, v' :: l', by simp only [RL]; exact ⟨_, _, rfl, rv, h1⟩, h2, by simp [h3], fun j x u hx hu => ?_⟩
      cases j with
      | zero => simp at hx hu; subst hx hu; exact hr
      | succ j => exact h4 j x u (by simpa using hx) (by simpa using hu)
    cases rv0 with
    | tmp t =>
      have ht : t < 512 := by simp only [okR, List.all_cons, Bool.and_eq_true] at ho; simpa [Nat.blt_eq] using ho.1
      have hx' : slG t (fun g => resOf P rs F h fun l => k (g F :: l)) = .ok _ := hx
      rw [slG_eq] at hx'
      refine join _ _ (fr.v t ht) ?_ hx'
      simp [resOne, Act.eval]
    | cell x t =>
      have ht : x < 512 := by simp only [okR, List.all_cons, Bool.and_eq_true] at ho; simpa [Nat.blt_eq] using ho.1
      have hx' : slG x (fun g => asP (g F) fun b o => cellsAt b h fun _ _ n ct => agF P t (bad 83) fun ag => szF P t (bad 83) fun sz => cif ag
        (cif (Nat.ble (Nat.add o sz) n) (resOf P rs F h fun l => k (.g (ct.cells sz o) :: l)) (bad 83))
        (cif (Nat.ble n o) (bad 83) (resOf P rs F h fun l => k (ct.get o :: l)))) = .ok r := hx
      rw [slG_eq] at hx'
      obtain ⟨b, n, hb, hx'⟩ := asP_ok hx'
      have rc := fr.v x ht
      rw [hb] at rc; simp only [RV] at rc
      obtain ⟨q, hq, he⟩ := rc
      obtain ⟨own, e, m, ct, hc, hx'⟩ := cellsAt_ok hx'
      rw [agF_eq] at hx'
      cases hg : agOf P t with
      | none => rw [hg] at hx'; exact bad_ok hx'
      | some g =>
        simp only [hg, szF_eq] at hx'
        cases hi : P.info? t with
        | none => rw [hi] at hx'; exact bad_ok hx'
        | some i =>
          simp only [hi] at hx'
          have he' : a.tmps.getD x undef = .pointer (some ⟨q, ρ.off b + n, none⟩) := he
          cases g with
          | false =>
            simp only [cif_eq] at hx'
            rcases ite_ok hx' with ⟨h0, _⟩ | ⟨_, hx'⟩
            · cases h0
            rcases ite_ok hx' with ⟨_, hx'⟩ | ⟨hn, hx'⟩
            · exact bad_ok hx'
            obtain ⟨v, h1, h2⟩ := s.cell hq hc (j := n) (by simpa [Nat.ble_eq] using hn)
            refine join _ _ h2 ?_ hx'
            simp [resOne, he', asAddr, loadVar, run_isAgg hg, h1]
          | true =>
            simp only [cif_eq] at hx'
            rcases ite_ok hx' with ⟨_, hx'⟩ | ⟨h0, _⟩
            · rcases ite_ok hx' with ⟨hn, hx'⟩ | ⟨_, hx'⟩
              · obtain ⟨l, h1, h2⟩ := s.load hq hc (o := n) (m := i.size) (by simpa [Nat.ble_eq] using hn)
                refine join (.g (ct.cells i.size n)) (.agg l.toArray) (by simp only [RV]; exact ⟨_, rfl, by simpa using h2⟩) ?_ hx'
                simp [resOne, he', asAddr, loadVar, run_isAgg hg, run_size hi, h1]
              · exact bad_ok hx'
            · exact absurd trivial h0
theorem results_ok {ρ : Rn} {F : Fr} {a : Act} {h : Hp} {w : World} {fn : Func} (fr : FR P ρ N F a) (s : Sim P base ρ h w) {k : List AV → Res} (ho : okR fn.results.toList = true) (hx : resOf P fn.results.toList F h k = .ok r) :
    ∃ l v, RV P ρ (tupOf l) v ∧ k l = .ok r ∧ (results fn a.tmps).run P w = .ok v w := by
  obtain ⟨l, l', h1, h2, h3, h4⟩ := resOf_ok fr s fn.results.toList k ho hx
  have hm := run_mapM (P := P) (w := w) fn.results.toList l' h3 h4
  have hr : (results fn a.tmps).run P w = .ok (if h : l'.toArray.size = 1 then l'.toArray[0] else .tuple l'.toArray) w := by
    have e : results fn a.tmps = (do
        let vs ← fn.results.mapM (resOne a.tmps)
        pure (if h : vs.size = 1 then vs[0] else .tuple vs)) := by
      unfold results
      congr 1
    rw [e, Array.mapM_eq_mapM_toList]
    simp [hm]
  refine ⟨l, _, ?_, h2, hr⟩
  have hl := h1.length
  match l, l', h1, hl with
  | [], [], h1, _ => simp only [tupOf, RV]; exact ⟨_, rfl, by simpa using h1⟩
  | [x], [y], h1, _ =>
    simp only [RL] at h1
    obtain ⟨b, z, h5, h6, h7⟩ := h1
    simp at h5
    obtain ⟨rfl, rfl⟩ := h5
    simpa [tupOf] using h6
  | x :: y :: l, x' :: y' :: l', h1, _ =>
    have : (if h : (x' :: y' :: l').toArray.size = 1 then (x' :: y' :: l').toArray[0] else Value.tuple (x' :: y' :: l').toArray) = .tuple (x' :: y' :: l').toArray := by
      rw [dif_neg (by simp)]
    rw [this]
    show RV P ρ (.t (x :: y :: l)) _
    simp only [RV]
    exact ⟨_, rfl, by simpa using h1⟩
end
end Go.Ev
namespace Go.Ev
open Go Go.RowKit
variable {r : DV}
/-- No function with a body bears the name that the model takes for its own. -/
def Named (P : Program) : Prop := ∀ (f : FuncId) (fn : Func), P.funcs[f]? = some fn → fn.body.isSome = true → (fn.name == "runtime.NumGoroutine") = false
/-- Calls put off that do nothing where no panic runs. -/
def IdleOk (P : Program) (idle : FuncId → Nat → Bool) : Prop := ∀ g n, idle g n = true → (P.funcs[g]?).bind (·.body) ≠ none ∧ ∀ (args : Array Value) (w : World), args.size = n →
  CallsD P g args .returning w fun e u w' => (∃ v, e = .returned v) ∧ u = .returning ∧ w'.heap = w.heap ∧ ∀ B, Below B w w'
section
variable {P : Program} {base N : Nat} {cl : Cl}
theorem Stp.same {ρ : Rn} {h : Hp} {w w' : World} (s : Sim P base ρ h w) (e : w'.heap = w.heap) (b : Below base w w') : Stp P base ρ h w ρ h w' :=
  ⟨.refl ρ, s.world e, b, Nat.le_refl _, fun _ _ _ => by rw [e], fun _ _ _ _ _ => rfl, fun _ _ _ k => k, fun b a k l => .inr ⟨b, k, l⟩, fun b a k l => .inr ⟨b, k, l⟩⟩
theorem run_enter (hn : Named P) {f : FuncId} (h : (P.funcs[f]?).bind (·.body) ≠ none) (args : Array Value) (w : World) : (callFunc f args).run P w = .ok (.enter f args) w := by
  cases hf : P.funcs[f]? with
  | none => rw [hf] at h; exact absurd rfl h
  | some fn =>
    rw [hf] at h
    have hb : fn.body.isSome = true := by
      cases hb : fn.body with
      | none => simp [hb] at h
      | some c => rfl
    have hb' : fn.body.isNone = false := by cases hb2 : fn.body <;> simp_all
    have hnm : fn.name ≠ "runtime.NumGoroutine" := by simpa using hn f fn hf hb
    have hb3 : fn.body ≠ none := by intro e; rw [e] at hb; cases hb
    simp [callFunc, hf, hnm, hb3]
theorem bodyOf_ok {f : FuncId} {b : Bd} (h : bodyOf P f = some b) : ∃ fn c, P.funcs[f]? = some fn ∧ fn.body = some c ∧ okC P fn.ntmps c = true ∧ okR fn.results.toList = true ∧ b = ⟨c, fn.results.toList, fn.ntmps⟩ := by
  unfold bodyOf at h
  cases hf : P.funcs[f]? with
  | none => rw [hf] at h; cases h
  | some fn =>
    simp only [hf] at h
    cases hb : fn.body with
    | none => rw [hb] at h; cases h
    | some c =>
      simp only [hb] at h
      cases hk : (okC P fn.ntmps c && okR fn.results.toList) with
      | false => rw [hk] at h; cases h
      | true =>
        rw [hk] at h; cases h
        simp only [Bool.and_eq_true] at hk
        exact ⟨fn, c, rfl, hb, hk.1, hk.2, rfl⟩
/-- A body's run. -/
theorem bodyA_ok (hcl : ClOk P base cl) {f : FuncId} {args : List AV} {args' : Array Value} {h : Hp} {fin : List Dfr → Hp → (Hp → Res) → Res} {k : K} {ρ : Rn} {w : World}
    (rl : RL P ρ args args'.toList) (s : Sim P base ρ h w) (hx : bodyA P cl f args h fin k = .ok r) :
    ∃ fn c, P.funcs[f]? = some fn ∧ fn.body = some c ∧ c.wp P (fun ex a w' => (ex = .normal ∨ ex = .ret) ∧ ∃ ρ' F' D' h', FR P ρ' fn.ntmps F' a ∧ DR P ρ' D' a.defers ∧ Stp P base ρ h w ρ' h' w' ∧
      okR fn.results.toList = true ∧ fin D' h' (fun h => resOf P fn.results.toList F' h fun l => k (tupOf l) h) = .ok r) { tmps := args' ++ Array.replicate (fn.ntmps - args'.size) undef, defers := [] } w := by
  cases hb : bodyOf P f with
  | none =>
    have hx' : Option.rec (motive := fun _ => Res) (.bad 73 (.y f)) (fun b => cif (an (Nat.ble (lenL args) b.n) (Nat.ble (lenL args) 512)) (cl.code .plain b.c (argsIn args 0 u3) [] h fun e F D h =>
      exE e (fin D h fun h => resOf P b.rs F h fun l => k (tupOf l) h) (fun _ => bad 74) (fun _ => bad 74) (fin D h fun h => resOf P b.rs F h fun l => k (tupOf l) h)) (bad 84)) (bodyOf P f) = .ok r := hx
    rw [hb] at hx'; exact bad_ok hx'
  | some b =>
    obtain ⟨fn, c, h1, h2, h3, h4, rfl⟩ := bodyOf_ok hb
    have hx' : Option.rec (motive := fun _ => Res) (.bad 73 (.y f)) (fun b => cif (an (Nat.ble (lenL args) b.n) (Nat.ble (lenL args) 512)) (cl.code .plain b.c (argsIn args 0 u3) [] h fun e F D h =>
      exE e (fin D h fun h => resOf P b.rs F h fun l => k (tupOf l) h) (fun _ => bad 74) (fun _ => bad 74) (fin D h fun h => resOf P b.rs F h fun l => k (tupOf l) h)) (bad 84)) (bodyOf P f) = .ok r := hx
    rw [hb] at hx'
    simp only [cif_eq, an_eq, lenL_eq] at hx'
    rcases ite_ok hx' with ⟨hl, hx'⟩ | ⟨_, hx'⟩
    · simp only [Bool.and_eq_true, Nat.ble_eq] at hl
      refine ⟨fn, c, h1, h2, ?_⟩
      have := hcl.code fn.ntmps .plain c (argsIn args 0 u3) [] h _ ρ w { tmps := args' ++ Array.replicate (fn.ntmps - args'.size) undef, defers := [] } h3 (by rintro b (e | e) <;> cases e)
        (FR.start rl hl.2 hl.1) rfl s hx'
      refine wp_mono (Q := QC r P base fn.ntmps ρ h w _) (fun b k cs => this b k cs) ?_
      rintro ex a w' ⟨e, ρ', F', D', h', he, fr', dr', st, hk⟩
      cases e with
      | normal => exact ⟨.inl he, ρ', F', D', h', fr', dr', st, h4, hk⟩
      | ret => exact ⟨.inr he, ρ', F', D', h', fr', dr', st, h4, hk⟩
      | exit i => exact bad_ok hk
      | goto l => exact bad_ok hk
    · exact bad_ok hx'
variable {idle : FuncId → Nat → Bool}
theorem runD_ok (hn : Named P) (hcl : ClOk P base cl) (hi : IdleOk P idle) {fn : Func} {tmps : Array Value} {R : Ending → World → Prop} : ∀ (D : List Dfr) (l : List Deferred) (ρ : Rn) (h : Hp) (w : World) (k : Hp → Res),
    DR P ρ D l → Sim P base ρ h w → runD P idle cl D h k = .ok r →
    (∀ ρ' h' w', Stp P base ρ h w ρ' h' w' → k h' = .ok r → ∃ v, (results fn tmps).run P w' = .ok v w' ∧ R (.returned v) w') → Leaves P fn tmps R l .returning w
  | [], l, ρ, h, w, k, dr, s, hx, hR => by
    cases (show l = [] from dr)
    exact hR ρ h w (.refl s) hx
  | d :: D, l, ρ, h, w, k, dr, s, hx, hR => by
    obtain ⟨x, y, fv, cap, rfl, ht, ⟨f1, c1, args, h3, h4, h5, h6⟩, h7⟩ := dr
    obtain ⟨xt, xa⟩ := x
    simp only at ht h5
    subst ht h5
    obtain ⟨dfn, dargs⟩ := d
    simp only at h3 h6
    subst h3
    cases fv with
    | func g =>
      have hx' : cif (idle g (lenL (appL f1 (appL dargs c1)))) (runD P idle cl D h k) (bodyA P cl g (appL f1 (appL dargs c1)) h noD fun _ h => runD P idle cl D h k) = .ok _ := hx
      rw [cif_eq] at hx'
      have rl : RL P ρ (appL f1 (appL dargs c1)) (xa ++ cap).toList := by
        rw [appL_eq, appL_eq, ← List.append_assoc, Array.toList_append]
        exact h6.append h4
      have rest : ∀ ρ' h' w', Stp P base ρ h w ρ' h' w' → runD P idle cl D h' k = .ok r → Leaves P fn tmps R y .returning w' := fun ρ' h' w' st hk =>
        runD_ok hn hcl hi D y ρ' h' w' k (h7.mono st.le) st.sim hk fun ρ'' h'' w'' st' hk' => hR ρ'' h'' w'' (st.trans st') hk'
      rcases ite_ok hx' with ⟨hid, hx'⟩ | ⟨_, hx'⟩
      · obtain ⟨hb, hc⟩ := hi g _ hid
        refine leaves_cons (by simp) (run_enter hn hb (xa ++ cap) w) ((hc (xa ++ cap) w (by rw [lenL_eq, rl.length]; simp)).mono ?_)
        rintro e u w' ⟨⟨v, rfl⟩, rfl, hw, hb⟩
        exact rest ρ h w' (.same s hw (hb base)) hx'
      · obtain ⟨fg, cg, g1, g2, g3⟩ := bodyA_ok hcl rl s hx'
        refine leaves_cons (by simp) (run_enter hn (by rw [g1]; simp [g2]) (xa ++ cap) w) ((callsD_of_wp g1 g2 (R := fun (e : Ending) w' => (∃ v, e = .returned v) ∧ ∃ ρ' h', Stp P base ρ h w ρ' h' w' ∧ runD P idle cl D h' k = .ok r) (wp_mono g3 ?_)).mono ?_)
        · rintro ex a w' ⟨he, ρ', F', D', h', fr', dr', st, hok, hk⟩
          have hD : D' = [] ∧ resOf P fg.results.toList F' h' (fun l => runD P idle cl D h' k) = .ok r := by
            cases D' with
            | nil => exact ⟨rfl, hk⟩
            | cons _ _ => exact bad_ok hk
          obtain ⟨rfl, hk⟩ := hD
          obtain ⟨l, v, _, hk', hr⟩ := results_ok fr' st.sim hok hk
          have : a.defers = [] ∧ ∃ v, (results fg a.tmps).run P w' = .ok v w' ∧ (fun (e : Ending) w' => (∃ v, e = .returned v) ∧ ∃ ρ' h', Stp P base ρ h w ρ' h' w' ∧ runD P idle cl D h' k = .ok r) (.returned v) w' :=
            ⟨dr', v, hr, ⟨v, rfl⟩, ρ', h', st, hk'⟩
          rcases he with rfl | rfl
          · exact this
          · exact this
        · rintro e u w' ⟨rfl, ⟨v, rfl⟩, ρ', h', st, hk⟩
          exact rest ρ' h' w' st hk
    | _ => exact bad_ok hx
variable {R : FuncId → Option (Cl → List AV → Hp → K → Res)}
/-- A rule is sound. -/
def RuleOk (P : Program) (base : Nat) (f : FuncId) (rl : Cl → List AV → Hp → K → Res) : Prop :=
  ∀ (cl : Cl), ClOk P base cl → ∀ {r : DV} (args : List AV) (args' : Array Value) (h : Hp) (k : K) (ρ : Rn) (w : World), RL P ρ args args'.toList → Sim P base ρ h w → rl cl args h k = .ok r →
    Does P f args' w fun e w' => ∃ v' ρ' v h', e = .returned v' ∧ Stp P base ρ h w ρ' h' w' ∧ RV P ρ' v v' ∧ k v h' = .ok r
theorem callA_ok (hn : Named P) (hcl : ClOk P base cl) (hi : IdleOk P idle) (hR : ∀ f r, R f = some r → RuleOk P base f r) (f : FuncId) (args : List AV) (args' : Array Value) (h : Hp) (k : K) (ρ : Rn) (w : World)
    (rl : RL P ρ args args'.toList) (s : Sim P base ρ h w) (hx : callA P R idle cl f args h k = .ok r) :
    Does P f args' w fun e w' => ∃ v' ρ' v h', e = .returned v' ∧ Stp P base ρ h w ρ' h' w' ∧ RV P ρ' v v' ∧ k v h' = .ok r := by
  have hx' : Option.rec (motive := fun _ => Res) (bodyA P cl f args h (runD P idle cl) k) (fun r => r cl args h k) (R f) = .ok _ := hx
  cases hr : R f with
  | some r => rw [hr] at hx'; exact hR f r hr cl hcl args args' h k ρ w rl s hx'
  | none =>
    rw [hr] at hx'
    obtain ⟨fn, c, h1, h2, h3⟩ := bodyA_ok hcl rl s hx'
    refine .inr ⟨run_enter hn (by rw [h1]; simp [h2]) args' w, calls_of_wp_defers h1 h2 (wp_mono h3 ?_)⟩
    rintro ex a w' ⟨he, ρ', F', D', h', fr', dr', st, hok, hk⟩
    have := runD_ok hn hcl hi (fn := fn) (tmps := a.tmps) (R := fun (e : Ending) w' => ∃ v' ρ' v h', e = .returned v' ∧ Stp P base ρ h w ρ' h' w' ∧ RV P ρ' v v' ∧ k v h' = .ok r) D' a.defers ρ' h' w' _ dr' st.sim hk (by
      intro ρ'' h'' w'' st' hk'
      obtain ⟨l, v, rv, hk'', hr⟩ := results_ok (fr'.mono st'.le) st'.sim hok hk'
      exact ⟨v, hr, v, ρ'', _, h'', rfl, st.trans st', rv, hk''⟩)
    rcases he with rfl | rfl
    · exact this
    · exact this
/-- The whole evaluator. -/
theorem run_ok (hn : Named P) (hi : IdleOk P idle) (hX : ∀ cl, ClOk P base cl → Ops P base cl) (hD : ∀ cl, ClOk P base cl → Draws P base cl) (hR : ∀ f r, R f = some r → RuleOk P base f r) : ∀ n, ClOk P base (run P R idle n)
  | 0 => ⟨fun _ _ _ _ _ _ _ _ _ hx => bad_ok hx, fun _ _ _ _ _ _ _ _ _ _ _ _ _ _ _ hx => bad_ok hx⟩
  | n + 1 => by
    have ih := run_ok hn hi hX hD hR n
    exact ⟨fun f args args' h k ρ w rl s hx => callA_ok hn ih hi hR f args args' h k ρ w rl s hx, fun N md c F D h k ρ w a ho hb fr dr s hx => codeA_ok ih (hX _ ih) (hD _ ih) md c F D h k ρ w a ho hb fr dr s hx⟩
end
end Go.Ev
namespace Go.Ev
open Go Go.RowKit
variable {r : DV}
section
variable {P : Program} {base N : Nat} {cl : Cl} {o : Oper}
/-- What a call does is what its operation does. -/
theorem upon_does {f : FuncId} {args : Array Value} {a : Act} {w : World} {next : Act → World → Prop} {Q : Exit → Act → World → Prop} {R : Ending → World → Prop}
    (hr : (execOp a.eval o).run P w = (callFunc f args).run P w) (h : Does P f args w R) (hR : ∀ e w', R e w' → ∃ v, e = .returned v ∧ next (a.put o.dst v) w') : o.wp P a w next Q := by
  show o.upon P a next Q ((execOp a.eval o).run P w)
  rw [hr]
  rcases h with ⟨v, w', h1, h2⟩ | ⟨h1, h2⟩
  · rw [h1]
    obtain ⟨v', e, hn⟩ := hR _ _ h2
    cases e; exact hn
  · rw [h1]
    refine Calls.mono h2 ?_
    intro e w' q
    obtain ⟨v, rfl, hn⟩ := hR e w' q
    exact hn
theorem call_ok (hcl : ClOk P base cl) {f : FuncId} {cc : Call} (ho : o.op = .call cc) (hc : cc.callee = .value (.func f)) (ha : ∀ p ∈ cc.args.toList, okO P p = true) : XS P base N cl (xCall f (cc.args.toList.map opA)) o := fun r F h k ρ w a next Q fr s hx hk => by
  have ra := opsO_ok fr s cc.args.toList ha
  have rl : RL P ρ (mapO (cc.args.toList.map opA) F) (cc.args.map a.eval).toList := by rw [Array.toList_map]; exact ra
  refine upon_does (f := f) (args := cc.args.map a.eval) ?_ (hcl.call f _ _ h k ρ w rl s hx) ?_
  · simp [execOp, ho, resolve, hc, Deferred.ofValue, invoke, Act.eval]
  · rintro e w' ⟨v', ρ', v, h', rfl, st, rv, hk'⟩
    exact ⟨v', rfl, hk ρ' v h' v' w' st rv hk'⟩
theorem callV_ok (hcl : ClOk P base cl) {f : Operand} {cc : Call} (ho : o.op = .call cc) (hc : cc.callee = .value f) (hf : okO P f = true) (ha : ∀ p ∈ cc.args.toList, okO P p = true) : XS P base N cl (xCallV (opA f) (cc.args.toList.map opA)) o := fun r F h k ρ w a next Q fr s hx hk => by
  have ra := opsO_ok fr s cc.args.toList ha
  have rf := opA_ok fr s hf
  have hx' : callV cl (opA f F) (mapO (cc.args.toList.map opA) F) h k = .ok r := hx
  cases hv : opA f F with
  | f fn f1 c1 =>
    rw [hv] at hx' rf
    simp only [RV] at rf
    obtain ⟨f1', c1', e, h1, h2⟩ := rf
    cases fn with
    | func g =>
      have hx2 : cl.call g (appL f1 (appL (mapO (cc.args.toList.map opA) F) c1)) h k = .ok r := hx'
      have rl : RL P ρ (appL f1 (appL (mapO (cc.args.toList.map opA) F) c1)) ((f1' ++ cc.args.map a.eval) ++ c1').toList := by
        rw [appL_eq, appL_eq, ← List.append_assoc, Array.toList_append, Array.toList_append, Array.toList_map]
        exact (h1.append ra).append h2
      refine upon_does (f := g) (args := (f1' ++ cc.args.map a.eval) ++ c1') ?_ (hcl.call g _ _ h k ρ w rl s hx2) ?_
      · simp [execOp, ho, resolve, hc, e, Deferred.ofValue, invoke]
      · rintro e w' ⟨v', ρ', v, h', rfl, st, rv, hk'⟩
        exact ⟨v', rfl, hk ρ' v h' v' w' st rv hk'⟩
    | _ => exact bad_ok hx'
  | _ => rw [hv] at hx'; exact bad_ok hx'
end
end Go.Ev

/- Part of the proof of CompileForCardSaid. -/
import Derived.Test.YthhgndcpeeifeaaGreatDoorE11
import Derived.Test.YthhgndcpeeifeaaGreatDoorE00
set_option linter.unusedVariables false
set_option linter.unusedSimpArgs false
set_option linter.unusedSectionVars false
set_option linter.constructorNameAsVariable false
namespace Go.Ev
open Go Go.RowKit
theorem chain_pred : ∀ {l : List Row} {e x : Row}, chainOk (e :: l) = true → x ∈ l → ∃ y ∈ e :: l, hasBit x.anc y.i = true
  | [], _, _, _, hx => by cases hx
  | b :: l, e, x, h, hx => by
    simp only [chainOk, Bool.and_eq_true] at h
    rcases List.mem_cons.1 hx with rfl | hx
    · exact ⟨e, by simp, h.1⟩
    · obtain ⟨y, hy, hb⟩ := chain_pred h.2 hx
      exact ⟨y, by simp [hy], hb⟩
theorem chain_drop : ∀ {d l : List Row}, chainOk (d ++ l) = true → chainOk l = true
  | [], _, h => h
  | [a], [], _ => rfl
  | [a], b :: l, h => by
    simp only [List.cons_append, List.nil_append, chainOk, Bool.and_eq_true] at h
    exact h.2
  | a :: b :: d, l, h => by
    simp only [List.cons_append, chainOk, Bool.and_eq_true] at h
    exact chain_drop (d := b :: d) h.2
section
variable {P : Program} {base N : Nat} {cl : Cl} {ops : Array Oper} {r : DV} {k : KR} {F0 : Fr} {ρ0 : Rn} {h0 : Hp} {w0 : World} {L : Nat → Bool} {a : Act} {w : World}
variable {M : Nat} {V : Nat → AV} {ν : Nat → Nat} {F Fc : Fr} {D : List Dfr} {h : Hp} {ρ : Rn} {done es live : List Row} {t : List PI}
theorem cur_congr {V V' : Nat → AV} {F0 : Fr} {L : Nat → Bool} (h : ∀ i, L i = true → V' i = V i) (s : Nat) : cur ops V' F0 L s = cur ops V F0 L s := by
  unfold cur
  cases wrOf (RS ops) s with
  | none => rfl
  | some q =>
    simp only []
    cases hb : L q.i with
    | false => rfl
    | true => rw [h _ hb]
theorem getN_putD_ne {p : Row} (hok : okOp P N ops p.o = true) {v : AV} {F : Fr} {x : Nat} (hx : x < 512) (hn : ∀ d, p.o.dst = some d → d ≠ x) : getN x (putD p.o.dst v F) = getN x F := by
  cases hd : p.o.dst with
  | none => rfl
  | some d => exact getN_putN_ne hx (dst_lt hok hd).2 v F (hn d hd)
variable (S : DS P ops)
include S
theorem RX.eff (hcl : ClOk P base cl) (hokA : ∀ q ∈ RS ops, okOp P N ops q.o = true) (R : RX P base N ops cl F0 ρ0 h0 w0 r k L a w M V ν F Fc D h ρ done es live t) {p : Row} (n : Nx ops L p) (hk : kdOp P p.o.op = .eff)
    {K : Act → World → Prop} {Q : Exit → Act → World → Prop} (hK : ∀ a' w', RInv P base N ops cl F0 ρ0 h0 w0 r k (plus L p.i) a' w' → K a' w') :
    if Region.wanted p.o (yielded ops a.tmps) then p.o.wp P a w K Q else K (a.put p.o.dst undef) w := by
  have hok := hokA p n.m
  have hanc := n.anc S R.down
  have hLp : L p.i = false := n.l
  have hpe : p ∈ effsO P ops := List.mem_filter.2 ⟨n.m, by simp [isK, hk]⟩
  have hpes : p ∈ es := by
    rw [R.de] at hpe
    rcases List.mem_append.1 hpe with c | c
    · have := R.dl p c; rw [hLp] at this; cases this
    · exact c
  have hesL : ∀ e ∈ es, L e.i = false := fun e he => by
    cases hh : L e.i with
    | false => rfl
    | true => have := R.el e he; rw [R.lm _ hh] at this; cases this
  have hnm : ¬ IsMap p := fun hm => by have := hm.make (P := P); rw [hk] at this; cases this
  have hni : ∀ m, ¬ Ins m p := fun m hi => by have := hi.kd (P := P); rw [hk] at this; cases this
  cases es with
  | nil => cases hpes
  | cons e es' =>
    have hch : chainOk (e :: es') = true := by
      have := S.chain
      rw [show (RS ops).filter (isK P .eff) = effsO P ops from rfl, R.de] at this
      exact chain_drop this
    have hpe' : p = e := by
      rcases List.mem_cons.1 hpes with c | c
      · exact c
      · obtain ⟨y, hy, hb⟩ := chain_pred hch c
        have := hanc _ hb
        rw [hesL y hy] at this; cases this
    subst hpe'
    obtain ⟨tl1, tl2, t', tl3, rfl⟩ := R.tl
    have hx0 : oiStep cl (trOp P ops p.o) (evOps cl k (t'.map (trPI P ops))) F D h = .ok r := R.hx
    generalize hrest : evOps cl k (t'.map (trPI P ops)) = rest at hx0
    have agF : ∀ x ∈ looksO ops p.o, getN x F = ov ops V F0 p x := fun x hx => by
      rw [R.ai.fr x (looks_lt hok x hx)]
      refine S.view n.m tl1 (fun q hq hb => ?_) hx
      cases hh : hasBit M q.i with
      | false => rfl
      | true => rw [R.ai.xd q hq hh _ hb] at tl2; cases tl2
    have agC : ∀ x ∈ looksO ops p.o, getN x Fc = ov ops V F0 p x := fun x hx => R.viewC S n hok hx fun m _ _ _ => hni m
    classical
    let k1 : KR := fun F1 D1 h1 => if (∀ x, x < 512 → (∀ d, p.o.dst = some d → d ≠ x) → getN x F1 = getN x Fc) then rest (putD p.o.dst (getO p.o.dst F1) F) D1 h1 else bad 0
    have hk1 : ∀ F1 D1 h1, k1 (putD p.o.dst (getO p.o.dst F1) Fc) D1 h1 = rest (putD p.o.dst (getO p.o.dst F1) F) D1 h1 := fun F1 D1 h1 => by
      have hc : ∀ x, x < 512 → (∀ d, p.o.dst = some d → d ≠ x) → getN x (putD p.o.dst (getO p.o.dst F1) Fc) = getN x Fc := fun x hx hn => getN_putD_ne hok hx hn
      have : k1 (putD p.o.dst (getO p.o.dst F1) Fc) D1 h1 = rest (putD p.o.dst (getO p.o.dst (putD p.o.dst (getO p.o.dst F1) Fc)) F) D1 h1 := if_pos hc
      rw [this, putD_get]
    have hx1 : oiStep cl (trOp P ops p.o) k1 Fc D h = .ok r := by
      rw [oi_dep hcl hok k1 (F := F) (F' := Fc) (fun x hx => by rw [agF x hx, agC x hx])]
      rw [show (fun F1 D h => k1 (putD p.o.dst (getO p.o.dst F1) Fc) D h) = fun F1 D h => rest (putD p.o.dst (getO p.o.dst F1) F) D h from funext fun F1 => funext fun D1 => funext fun h1 => hk1 F1 D1 h1]
      rw [← oi_dep hcl hok rest (F := F) (F' := F) (fun x hx => rfl)]
      exact hx0
    refine op_ok (ops_ok hcl) hok R.fr R.dr R.st.sim hx1 fun a' w' hq ⟨v', htm⟩ => hK a' w' ?_
    obtain ⟨ρ', F', D', h', f1, f2, f3, f4⟩ := hq
    have hcond : (∀ x, x < 512 → (∀ d, p.o.dst = some d → d ≠ x) → getN x F' = getN x Fc) := Classical.byContradiction fun c => by
      have : k1 F' D' h' = bad 0 := if_neg c
      rw [this] at f4; cases f4
    have f5 : rest (putD p.o.dst (getO p.o.dst F') F) D' h' = .ok r := by
      have : k1 F' D' h' = rest (putD p.o.dst (getO p.o.dst F') F) D' h' := if_pos hcond
      rw [this] at f4; exact f4
    generalize hv : getO p.o.dst F' = v at f5
    have bit : ∀ i, hasBit (Nat.lor M (Nat.pow 2 p.i)) i = true ↔ i = p.i ∨ hasBit M i = true := fun i => by rw [hasBit_or, hasBit_pow, Bool.or_eq_true, decide_eq_true_eq, Or.comm]; exact or_congr_left ⟨Eq.symm, Eq.symm⟩
    have fresh : ∀ {n' : Nat}, n' < h.nx → n' < 32768 → ρ.blk (idOf n') = none → ρ'.blk (idOf n') = none ∧ hat (idOf n') h'.t = hat (idOf n') h.t := fun {n'} b1 b2 b3 => ⟨f3.fresh n' b1 b2 b3, f3.old n' b1 b2 b3 (f3.fresh n' b1 b2 b3)⟩
    have A1 := R.ai.put S n.m hok tl2 tl1 (v := v) (h' := h') (ν' := ν) f3.nx (fun _ _ _ => rfl) (fun e => by rw [hk] at e; cases e) (fun e => by rw [hk] at e; cases e) (fun e => by rw [hk] at e; cases e) (fun e => by rw [hk] at e; cases e)
      (fun q hq hb hkq hnmq hl => by
        obtain ⟨_, b2, b3⟩ := R.ai.nu q hq hb hkq
        exact (fresh b2 b3 (R.ai.pm q hq hb hkq hnmq hl).b).2)
      (fun m hm hmm hb hc => by
        rcases hb with hb | hb
        · obtain ⟨_, b2, b3⟩ := R.ai.nu m hm hb hmm.make
          have mpm := R.ai.mp m hm hmm hb hc
          have hne : m.i ≠ p.i := fun e => hnm (rs_eq hm n.m e ▸ hmm)
          refine mpm.keep mpm.b (by simp [updV, hne]) (fun q hq hi => ?_) (fun q hq hi hb' => ent_upd v (R.ai.nanc hq hb' tl2)) (fresh b2 b3 mpm.b).2
          rw [bit]
          exact ⟨fun h => h.resolve_left fun e => hni m (rs_eq hq n.m e ▸ hi), .inr⟩
        · subst hb; exact absurd hmm hnm)
    have A2 := A1.world (L' := plus L p.i) (ρ' := ρ') (fun i hi => plus_le hi) fun q hq hb hkq _ _ hn => by
      rcases (bit _).1 hb with e | hb
      · have := rs_eq hq n.m e
        subst this
        rw [hk] at hkq; cases hkq
      · obtain ⟨_, b2, b3⟩ := R.ai.nu q hq hb hkq
        exact (fresh b2 b3 hn).1
    have hL2 : ∀ i, plus L p.i i = true → hasBit (Nat.lor M (Nat.pow 2 p.i)) i = true := fun i hi => by
      rw [bit]
      by_cases e : i = p.i
      · exact .inl e
      · rw [plus_ne L e] at hi; exact .inr (R.lm i hi)
    obtain ⟨M1, V1, ν1, F1, h1, t1, c1, c2, c3, c4, c5, c6, c7, c8⟩ := blockA S hcl hokA tl3 A2 (R.st.trans f3) hL2 (fun q hq => by
      obtain ⟨q1, _⟩ := List.mem_filter.1 hq
      obtain ⟨⟨a1, a2, a3⟩, _⟩ := R.rl q q1
      exact ⟨a1, a2, (bit _).2 (.inr a3)⟩) (by rw [hrest]; exact f5)
    have hVV : ∀ i, hasBit M i = true → V1 i = V i := fun i hi => by
      rw [c6 i ((bit i).2 (.inr hi))]
      have : i ≠ p.i := fun e => by subst e; rw [hi] at tl2; cases tl2
      simp [updV, this]
    have hopen : ∀ {m}, m ∈ RS ops → IsMap m → (Cmp ops (plus L p.i) m ↔ Cmp ops L m) := fun {m} hm hmap => n.cmp hm (fun e => hnm (e ▸ hmap)) (hni m)
    have hLm : ∀ {m}, m ∈ RS ops → IsMap m → plus L p.i m.i = L m.i := fun {m} hm hmap => plus_ne L fun e => hnm (rs_eq hm n.m e ▸ hmap)
    have hFF : ∀ x, x < 512 → getN x F' = getN x (putD p.o.dst v Fc) := fun x hx => by
      cases hd : p.o.dst with
      | none => exact hcond x hx fun d hd' => by rw [hd] at hd'; cases hd'
      | some d =>
        rw [hd] at hv
        by_cases e : d = x
        · subst e
          simp only [putD, getN_putN_self]
          exact hv
        · simp only [putD]
          rw [getN_putN_ne hx (dst_lt hok hd).2 v Fc e]
          exact hcond x hx fun d' hd' e' => by rw [hd] at hd'; cases hd'; exact e e'
    refine ⟨M1, V1, ν1, F1, F', D', h1, ρ', done ++ [p], es', _, t1, n.down R.down, by rw [R.de]; simp, fun e he => ?_, fun e he => ?_, fun q hq hl => ?_, fun i hi => (c5 i).2 (.inl (hL2 i hi)), c2, c8, fun q hq hkq hb => ?_, f1, fun x hx hop => ?_, f2, c3, by rw [List.length_append]; exact c4, c1, fun m hm hmap hl hc => ?_⟩
    · rcases List.mem_append.1 he with c | c
      · exact plus_le (R.dl e c)
      · simp at c; subst c; exact plus_self _ _
    · have he0 : e ∈ RS ops ∧ kdOp P e.o.op = .eff := by
        have : e ∈ effsO P ops := by rw [R.de]; simp [he]
        obtain ⟨a1, a2⟩ := List.mem_filter.1 this
        exact ⟨a1, by simpa [isK] using a2⟩
      cases hh : hasBit M1 e.i with
      | false => rfl
      | true =>
        rcases (c5 _).1 hh with g | ⟨q, g1, g2⟩
        · rcases (bit _).1 g with g | g
          · have := rs_eq he0.1 n.m g
            subst this
            obtain ⟨y, hy, hb⟩ := chain_pred hch he
            have := tl1 _ hb
            rw [R.el y hy] at this; cases this
          · have := R.el e (by simp [he]); rw [g] at this; cases this
        · obtain ⟨b1, b2, _⟩ := quiet_mem g1
          have := rs_eq b1 he0.1 g2
          subst this
          exact absurd he0.2 b2
    · rw [List.length_append] at hl
      rw [c5]
      by_cases e : lvl (effsO P ops) q ≤ done.length
      · exact .inl ((bit _).2 (.inr (R.ql q hq e)))
      · refine .inr ⟨q, List.mem_filter.2 ⟨hq, ?_⟩, rfl⟩
        simp only [List.length_singleton] at hl
        simp; omega
    · rcases (c5 _).1 hb with g | ⟨q', g1, g2⟩
      · rcases (bit _).1 g with g | g
        · have := rs_eq hq n.m g
          subst this
          rw [hk] at hkq; cases hkq
        · rcases R.rd q hq hkq g with g | ⟨x, g1, g2⟩
          · by_cases hb' : hasBit p.anc q.i = true
            · exact .inr ⟨p, by simp, hb'⟩
            · exact .inl (List.mem_append_left _ (List.mem_filter.2 ⟨g, by simpa using hb'⟩))
          · exact .inr ⟨x, by simp [g1], g2⟩
      · have := rs_eq (quiet_mem g1).1 hq g2
        subst this
        exact .inl (List.mem_append_right _ (List.mem_filter.2 ⟨g1, by simp [isK, hkq]⟩))
    · rw [hFF x hx, cur_congr (V := updV V p.i v) (fun i hi => c6 i (hL2 i hi))]
      exact S.cur_put n.m (fun q => rfl) n.l (fun d hd => (dst_lt hok hd).2) hx (R.fc x hx fun m hm hmap hd hl => (hopen hm hmap).1 (hop m hm hmap hd (by rw [hLm hm hmap]; exact hl)))
    · rw [hLm hm hmap] at hl
      have kp : Kp w0 ρ h w ρ' h1 w' := by
        obtain ⟨kp1, kp2, kp3⟩ := f3.kp w0
        refine ⟨kp1, kp2, fun am b1 b2 b3 => ⟨(kp3 am b1 b2 b3).1, fun b hb lb => (kp3 am b1 b2 b3).2 b hb ?_⟩⟩
        unfold Live at lb ⊢
        rw [← c7 b (by rw [hb]; simp)]; exact lb
      refine (R.rm m hm hmap hl fun c => hc ((hopen hm hmap).2 c)).step kp (fun q hq hi => plus_ne L fun e => hni m (rs_eq hq n.m e ▸ hi)) (fun q hq hi hb => ent_congr fun i hi' => hVV i (R.ai.xd q hq (R.lm _ hb) i hi')) fun s hs => eval_put_ne htm fun d hd e => ?_
      subst e
      have g1 := S.dst n.m hd
      rw [S.dst hm hs] at g1; cases g1
      exact hnm hmap
omit S in
/-- All is done. -/
theorem RX.fin (R : RX P base N ops cl F0 ρ0 h0 w0 r k L a w M V ν F Fc D h ρ done es live t) (hall : ∀ i, i < ops.size → L i = true) : QR r P base N ρ0 h0 w0 k a w := by
  have hallR : ∀ q ∈ RS ops, L q.i = true := fun q hq => hall _ (by
    obtain ⟨_, h2⟩ := rs_mem hq
    rcases Nat.lt_or_ge q.i ops.size with c | c
    · exact c
    · rw [Array.getElem?_eq_none c] at h2; cases h2)
  have hes : es = [] := List.eq_nil_iff_forall_not_mem.2 fun e he => by
    have he0 : e ∈ effsO P ops := by rw [R.de]; simp [he]
    have := R.el e he
    rw [R.lm _ (hallR e (List.mem_filter.1 he0).1)] at this; cases this
  subst hes
  have ht : t = [] := R.tl
  subst ht
  refine ⟨ρ, F, D, h, ⟨R.fr.sz, fun x hx => ?_⟩, R.dr, R.st, R.hx⟩
  have e1 := R.fc x hx fun m hm hmap hd hl => ⟨hl, fun q hq _ => hallR q hq⟩
  have e2 := R.ai.fr x hx
  have e3 : cur ops V F0 L x = cur ops V F0 (hasBit M) x := by
    unfold cur
    cases hw : wrOf (RS ops) x with
    | none => rfl
    | some q =>
      simp only []
      have := hallR q (wrOf_some hw).1
      rw [this, R.lm _ this]
  rw [e2, ← e3, ← e1]
  exact R.fr.v x hx
end
end Go.Ev
namespace Go.Ev
open Go Go.RowKit
def Lb (L : Array Bool) (i : Nat) : Bool := L.getD i false
theorem Lb_set {L : Array Bool} {i : Nat} (hi : i < L.size) : Lb (L.setIfInBounds i true) = plus (Lb L) i := by
  funext j
  unfold Lb plus
  by_cases e : j = i
  · subst e; simp [hi]
  · simp [Array.getElem?_setIfInBounds, e, Ne.symm e]
theorem getD_lt {L : Array Bool} {i : Nat} (h : i < L.size) : L.getD i true = Lb L i := by simp [Lb, Array.getD, h]
def left (L : Array Bool) : List Nat → Nat
  | [] => 0
  | i :: l => (if Lb L i then 0 else 1) + left L l
theorem left_le {L : Array Bool} {i : Nat} (hi : i < L.size) : ∀ l : List Nat, left (L.setIfInBounds i true) l ≤ left L l
  | [] => Nat.le_refl _
  | j :: l => by
    have ih := left_le hi l
    unfold left
    rw [Lb_set hi]
    by_cases e : j = i
    · subst e; rw [plus_self]; simp; omega
    · rw [plus_ne _ e]; omega
theorem left_lt {L : Array Bool} {i : Nat} (hi : i < L.size) (hl : Lb L i = false) : ∀ l : List Nat, i ∈ l → left (L.setIfInBounds i true) l + 1 ≤ left L l
  | [], h => by cases h
  | j :: l, h => by
    have ih := left_le hi l
    unfold left
    by_cases e : j = i
    · subst e
      rw [Lb_set hi, plus_self, hl]; simp; omega
    · rcases List.mem_cons.1 h with h | h
      · exact absurd h.symm e
      · have := left_lt hi hl l h
        rw [Lb_set hi, plus_ne _ e]
        omega
theorem left_zero {L : Array Bool} : ∀ {l : List Nat}, left L l = 0 → ∀ i ∈ l, Lb L i = true
  | [], _, _, h => by cases h
  | j :: l, hz, i, h => by
    unfold left at hz
    rcases List.mem_cons.1 h with rfl | h
    · cases hh : Lb L i with
      | true => rfl
      | false => rw [hh] at hz; simp at hz
    · exact left_zero (by omega) i h
theorem left_rep (n : Nat) : ∀ l : List Nat, left (Array.replicate n false) l = l.length
  | [] => rfl
  | j :: l => by
    unfold left
    have : Lb (Array.replicate n false) j = false := by simp [Lb, Array.getD]
    rw [this, left_rep n l]; simp; omega
section
variable {P : Program} {base N : Nat} {cl : Cl} {ops : Array Oper} {r : DV} {k : KR} {F0 : Fr} {ρ0 : Rn} {h0 : Hp} {w0 : World}
theorem RInv.run (S : DS P ops) (hcl : ClOk P base cl) (hokA : ∀ q ∈ RS ops, okOp P N ops q.o = true) {Q : Exit → Act → World → Prop} (hQ : ∀ a w, QR r P base N ρ0 h0 w0 k a w → Q .normal a w) :
    ∀ (fuel : Nat) (L : Array Bool) (a : Act) (w : World), L.size = ops.size → left L (List.range ops.size) ≤ fuel → RInv P base N ops cl F0 ρ0 h0 w0 r k (Lb L) a w → wpAny P .any ops Q fuel L a w := by
  -- where nothing comes next, all is done
  have hdone : ∀ (L : Array Bool) (a : Act) (w : World), L.size = ops.size → RInv P base N ops cl F0 ρ0 h0 w0 r k (Lb L) a w → Region.ready .any ops L = [] → Q .normal a w := by
    intro L a w hsz ⟨M, V, ν, F, Fc, D, h, ρ, done, es, live, t, R⟩ hr
    refine hQ a w (R.fin ?_)
    have key : ∀ n i, i ≤ n → i < ops.size → Lb L i = true := by
      intro n
      induction n with
      | zero =>
        intro i hi his
        have h0 : i = 0 := by omega
        subst h0
        cases hh : Lb L 0 with
        | true => rfl
        | false =>
          obtain ⟨p, hp, hpi⟩ := rs_of his
          have : 0 ∈ Region.ready .any ops L := by
            unfold Region.ready
            refine List.mem_filter.2 ⟨List.mem_range.2 his, ?_⟩
            have e1 : L.getD 0 true = false := by rw [getD_lt (by omega)]; exact hh
            obtain ⟨_, g⟩ := rs_mem hp
            rw [hpi] at g
            simp only [e1, g, Option.map_some, Option.getD_some, Bool.not_false, Bool.true_and]
            rw [Array.all_eq_true_iff_forall_mem]
            intro e he
            cases hb : Region.binds .any e with
            | false => simp
            | true =>
              have := S.lt hp e (by simpa using he) hb
              omega
          rw [hr] at this; cases this
      | succ n ih =>
        intro i hi his
        cases hh : Lb L i with
        | true => rfl
        | false =>
          obtain ⟨p, hp, hpi⟩ := rs_of his
          have : i ∈ Region.ready .any ops L := by
            unfold Region.ready
            refine List.mem_filter.2 ⟨List.mem_range.2 his, ?_⟩
            have e1 : L.getD i true = false := by rw [getD_lt (by omega)]; exact hh
            obtain ⟨_, g⟩ := rs_mem hp
            rw [hpi] at g
            simp only [e1, g, Option.map_some, Option.getD_some, Bool.not_false, Bool.true_and]
            rw [Array.all_eq_true_iff_forall_mem]
            intro e he
            cases hb : Region.binds .any e with
            | false => simp
            | true =>
              have hlt := S.lt hp e (by simpa using he) hb
              have := ih e.on (by omega) (by omega)
              unfold Lb at this
              simp [this]
          rw [hr] at this; cases this
    exact fun i hi => key i i (Nat.le_refl _) hi
  intro fuel
  induction fuel with
  | zero =>
    intro L a w hsz hle hI
    have hall := left_zero (L := L) (Nat.le_zero.1 hle)
    have hr : Region.ready .any ops L = [] := List.filter_eq_nil_iff.2 fun i hi => by
      have := hall i hi
      have his : i < ops.size := by
        rcases Nat.lt_or_ge i ops.size with c | c
        · exact c
        · exact absurd hi (by simp; omega)
      have e1 : L.getD i true = true := by rw [getD_lt (by omega)]; exact this
      simp [e1]
    exact ⟨hr, hdone L a w hsz hI hr⟩
  | succ fuel ih =>
    intro L a w hsz hle hI
    refine ⟨hdone L a w hsz hI, fun i hi => ?_⟩
    obtain ⟨hi1, hi2⟩ := List.mem_filter.1 hi
    have his : i < ops.size := List.mem_range.1 hi1
    obtain ⟨p, hp, hpi⟩ := rs_of his
    obtain ⟨_, g⟩ := rs_mem hp
    subst hpi
    simp only [g, Option.map_some, Option.getD_some, Bool.and_eq_true, Bool.not_eq_true'] at hi2
    have hl : Lb L p.i = false := by rw [← getD_lt (by omega)]; exact hi2.1
    have nx : Nx ops (Lb L) p := ⟨hp, hl, fun e he hb => by
      have := Array.all_eq_true_iff_forall_mem.1 hi2.2 e (by simpa using he)
      rw [hb] at this
      simpa [Lb] using this⟩
    have hK : ∀ a' w', RInv P base N ops cl F0 ρ0 h0 w0 r k (plus (Lb L) p.i) a' w' → wpAny P .any ops Q fuel (L.setIfInBounds p.i true) a' w' := fun a' w' hI' => by
      refine ih _ a' w' (by simpa using hsz) ?_ (by rw [Lb_set (by omega)]; exact hI')
      have := left_lt (by omega) hl _ hi1
      omega
    obtain ⟨M, V, ν, F, Fc, D, h, ρ, done, es, live, t, R⟩ := hI
    have key : if Region.wanted p.o (yielded ops a.tmps) then p.o.wp P a w (wpAny P .any ops Q fuel (L.setIfInBounds p.i true)) Q else wpAny P .any ops Q fuel (L.setIfInBounds p.i true) (a.put p.o.dst undef) w := by
      cases hk : kdOp P p.o.op with
      | pure => exact R.quiet S hcl nx (hokA p hp) (.inl hk) hK
      | read => exact R.quiet S hcl nx (hokA p hp) (.inr hk) hK
      | make => exact R.make S nx (hokA p hp) hk hK
      | ins => exact R.ins S nx (hokA p hp) hk hK
      | eff => exact R.eff S hcl hokA nx hk hK
      | no =>
        have := S.form p hp
        unfold formOk at this
        rw [hk] at this; cases this
    unfold wpOp
    rw [g]
    simp only []
    split
    · rename_i hw; rw [if_pos hw] at key; exact .inl key
    · rename_i hw; rw [if_neg hw] at key; exact key
/-- A region that draws its order. -/
theorem draws_ok (hm : P.follows .mixedOrders = true) (hcl : ClOk P base cl) : Draws P base cl := fun {r} N id ops k F D h ρ w a Q hok fr dr s hx hQ => by
  unfold trD at hx
  cases hp : plan P ops with
  | none => rw [hp] at hx; exact bad_ok hx
  | some pl =>
    rw [hp] at hx
    obtain ⟨S, hgo⟩ := plan_ok hp
    have hokA : ∀ q ∈ RS ops, okOp P N ops q.o = true := fun q hq => hok q.o (by
      obtain ⟨_, g⟩ := rs_mem hq
      exact List.mem_of_getElem? (by rw [Array.getElem?_toList]; exact g))
    refine wp_region_any hm ?_
    refine RInv.run S hcl hokA (F0 := F) (ρ0 := ρ) (h0 := h) (w0 := w) (r := r) (k := k) (fun a' w' q => hQ a' w' q) ops.size _ a _ (by simp) (by rw [left_rep]; simp) ?_
    have hb0 : ∀ i, hasBit 0 i = true → False := fun i h => by rw [hasBit_zero] at h; cases h
    have hL0 : ∀ i, Lb (Array.replicate ops.size false) i = true → False := fun i h => by
      have : Lb (Array.replicate ops.size false) i = false := by simp [Lb, Array.getD]
      rw [this] at h; cases h
    have hcur : ∀ (V : Nat → AV) (L : Nat → Bool), (∀ i, L i = true → False) → ∀ t, cur ops V F L t = getN t F := fun V L hL t => by
      unfold cur
      cases wrOf (RS ops) t with
      | none => rfl
      | some q =>
        simp only []
        cases hh : L q.i with
        | false => rfl
        | true => exact (hL _ hh).elim
    have A0 : AI P base N ops cl F h.nx (Lb (Array.replicate ops.size false)) ρ 0 (fun _ => .u) (fun _ => 0) F h :=
      ⟨fun t _ => (hcur _ _ hb0 t).symm, fun q _ hb => (hb0 _ hb).elim, fun q _ hb => (hb0 _ hb).elim, fun q _ hb => (hb0 _ hb).elim, fun q _ hb => (hb0 _ hb).elim, fun q _ hb => (hb0 _ hb).elim, fun q _ q' _ hb => (hb0 _ hb).elim, fun q _ hb => (hb0 _ hb).elim, fun q _ _ hb => (hb0 _ hb).elim⟩
    have st0 : Stp P base ρ h w ρ h { w with drawn := w.drawn + 1 } := Stp.draw s
    obtain ⟨M1, V1, ν1, F1, h1, t1, c1, c2, c3, c4, c5, c6, c7, c8⟩ := blockA S hcl hokA (es := effsO P ops) (l := 0) (live := []) hgo A0 st0 (fun i hi => (hL0 i hi).elim) (fun q hq => by cases hq) hx
    refine ⟨M1, V1, ν1, F1, F, D, h1, ρ, [], effsO P ops, _, t1, fun q hq hl => (hL0 _ hl).elim, rfl, fun e he => (by cases he), fun e he => ?_, fun q hq hl => ?_, fun i hi => (hL0 i hi).elim, c2, c8, fun q hq hk hb => ?_, fr, fun x hx _ => (hcur _ _ hL0 x).symm, dr, c3, c4, c1, fun m hm hmm hl => (hL0 _ hl).elim⟩
    · cases hh : hasBit M1 e.i with
      | false => rfl
      | true =>
        rcases (c5 _).1 hh with g | ⟨q, g1, g2⟩
        · exact (hb0 _ g).elim
        · obtain ⟨b1, b2, _⟩ := quiet_mem g1
          obtain ⟨a1, a2⟩ := List.mem_filter.1 he
          have := rs_eq b1 a1 g2
          subst this
          exact absurd (by simpa [isK] using a2) b2
    · refine (c5 _).2 (.inr ⟨q, List.mem_filter.2 ⟨hq, ?_⟩, rfl⟩)
      simp only [List.length_nil, Nat.le_zero] at hl
      simp [hl]
    · rcases (c5 _).1 hb with g | ⟨q', g1, g2⟩
      · exact (hb0 _ g).elim
      · have := rs_eq (quiet_mem g1).1 hq g2
        subst this
        exact .inl (List.mem_append_right _ (List.mem_filter.2 ⟨g1, by simp [isK, hk]⟩))
end
end Go.Ev
namespace Go.Ev
open Go
section
variable (P : Program)
noncomputable def kdF {α : Type} (kd : IntKind) (k : IntKind → α) : α := IntKind.rec (motive := fun _ => α) (k .i8) (k .i16) (k .i32) (k .i64) (k .u8) (k .u16) (k .u32) (k .u64) kd
/-- What is known of it by itself. -/
noncomputable def cloF (v : AV) (k : AV → Res) (z : Res) : Res :=
  AV.rec (motive_1 := fun _ => Res) (motive_2 := fun _ => Unit) z (fun b => cif b (k (.b true)) (k (.b false))) (fun kd n => kdF kd fun kd => intF n fun n => k (.i kd n)) (fun n c => natF n fun n => natF c fun c => k (.s n c)) (fun _ _ => z) (k .p0)
    (fun _ _ _ => z) (k .sl0) (fun _ => z) (k .m0) (fun _ _ _ _ _ => z) (k .f0) (fun _ _ _ => z) (k .if0) (fun _ _ => z) (fun _ _ => z) (fun y => natF y fun y => k (.y y)) (fun _ => z) () (fun _ _ _ _ => ()) v
/-- A row, or several values. -/
noncomputable def rowE {α : Type} (v : AV) (s : Id → Nat → Nat → α) (g : List AV → α) (z : α) : α :=
  AV.rec (motive_1 := fun _ => α) (motive_2 := fun _ => Unit) z (fun _ => z) (fun _ _ => z) (fun _ _ => z) (fun _ _ => z) z (fun b o n => s b o n) z (fun _ => z) z (fun _ _ _ _ _ => z) z (fun _ _ _ => z) z (fun l _ => g l) (fun _ _ => z) (fun _ => z) (fun _ => z) () (fun _ _ _ _ => ()) v
noncomputable def deep1 (ih : AV → (DV → Res) → Res) (l : List AV) : (List DV → Res) → Res :=
  List.rec (motive := fun _ => (List DV → Res) → Res) (fun k => k []) (fun a _ r k => ih a fun d => r fun ds => k (d :: ds)) l
/-- A value with all that is in it. -/
noncomputable def deep (h : Hp) (fuel : Nat) : AV → (DV → Res) → Res :=
  Nat.rec (motive := fun _ => AV → (DV → Res) → Res) (fun _ _ => bad 140)
    (fun _ ih v k => cloF v (fun v => k (.v v)) (rowE v
      (fun b o n => natF n fun n => cif (an (Nat.beq o 0) (nt (inBr b))) (cellsAt b h fun _ e m t => natF (Nat.mul n (szOf P e)) fun q => cif (Nat.ble q m) (natF e fun e => deep1 ih (t.cells q 0) fun l => k (.l e n l)) (bad 143)) (bad 144))
      (fun l => deep1 ih l fun l => k (.g l)) (bad 141))) fuel
noncomputable def deepX1 (ih : AV → Hp → (DV → Hp → Res) → Res) (l : List AV) : Hp → (List DV → Hp → Res) → Res :=
  List.rec (motive := fun _ => Hp → (List DV → Hp → Res) → Res) (fun h k => k [] h) (fun a _ r h k => ih a h fun d h => r h fun ds h => k (d :: ds) h) l
/-- The same of rows of one's own, each told once. -/
noncomputable def deepX (fuel : Nat) : AV → Hp → (DV → Hp → Res) → Res :=
  Nat.rec (motive := fun _ => AV → Hp → (DV → Hp → Res) → Res) (fun _ _ _ => bad 140)
    (fun _ ih v h k => cloF v (fun v => k (.v v) h) (rowE v
      (fun b o n => natF n fun n => cif (Nat.beq o 0) (cellsAt b h fun own e m t => cif own (natF (Nat.mul n (szOf P e)) fun q => cif (Nat.ble q m) (natF e fun e => deepX1 ih (t.cells q 0) ⟨hput b .no h.t, h.nx⟩ fun l h => k (.l e n l) h) (bad 143)) (bad 145)) (bad 144))
      (fun l => deepX1 ih l h fun l h => k (.g l) h) (bad 141))) fuel
/-- Laid into a heap (own: to be changed by whoever has it). -/
noncomputable def newO (own : Bool) (e : TypeId) (l : List AV) (h : Hp) (k : Id → Hp → Res) : Res := natF (lenL l) fun n => cif (Nat.ble n 4096) (h.new (.c own e n (CT.lay l 0 CT.z)) k) (bad 8)
noncomputable def layD (own : Bool) (d : DV) : Hp → K → Res :=
  DV.rec (motive_1 := fun _ => Hp → K → Res) (motive_2 := fun _ => Hp → (List AV → Hp → Res) → Res) (fun x h k => k x h) (fun _ ih h k => ih h fun l h => k (.g l) h)
    (fun e n _ ih h k => ih h fun l h => newO own e l h fun b h => k (.sl b 0 n) h) (fun h k => k [] h) (fun _ _ ih1 ih2 h k => ih1 h fun a h => ih2 h fun l h => k (a :: l) h) d
/-- A list of them. -/
noncomputable def layL (own : Bool) (l : List DV) (h : Hp) (k : List AV → Hp → Res) : Res :=
  List.rec (motive := fun _ => Hp → (List AV → Hp → Res) → Res) (fun h k => k [] h) (fun d _ ih h k => layD own d h fun a h => ih h fun l h => k (a :: l) h) l h k
/-! the tables: the first 64 blocks -/
noncomputable def tabV (v : AV) : Bool :=
  AV.rec (motive_1 := fun _ => Bool) (motive_2 := fun _ => Unit) false (fun _ => true) (fun _ _ => true) (fun _ _ => true) (fun b _ => inBr b) true (fun b _ _ => inBr b) true (fun _ => false) true (fun _ _ _ _ _ => false) true (fun _ _ _ => false) true (fun _ _ => false) (fun _ _ => false) (fun _ => true) (fun _ => false) () (fun _ _ _ _ => ()) v
noncomputable def allV (l : List AV) : Bool := List.rec (motive := fun _ => Bool) true (fun v _ ih => an (tabV v) ih) l
noncomputable def tabO (o : AObj) : Bool := AObj.rec (motive := fun _ => Bool) true (fun own _ n t => an (nt own) (allV (t.cells n 0))) (fun _ _ => false) (fun _ _ => false) o
noncomputable def all8 {α : Type} (f : α → Bool) (t : T8 α) : Bool := T8.rec (motive := fun _ => Bool) (fun a b c d e g h i => an (f a) (an (f b) (an (f c) (an (f d) (an (f e) (an (f g) (an (f h) (f i)))))))) t
noncomputable def tabOk (t : T8 (T8 AObj)) : Bool := all8 (all8 tabO) t
def e1 : T8 AObj := T8.all .no
def e2 : T8 (T8 AObj) := T8.all e1
def e3 : T8 (T8 (T8 AObj)) := T8.all e2
def e4 : T8 (T8 (T8 (T8 AObj))) := T8.all e3
/-- A heap that has the tables alone. -/
def onlyT (t : T8 (T8 AObj)) : Hp := ⟨⟨⟨⟨t, e2, e2, e2, e2, e2, e2, e2⟩, e3, e3, e3, e3, e3, e3, e3⟩, e4, e4, e4, e4, e4, e4, e4⟩, 64⟩
noncomputable def t8a {α β : Type} (t : T8 α) (k : α → β) : β := T8.rec (motive := fun _ => β) (fun a _ _ _ _ _ _ _ => k a) t
noncomputable def tabF (h : Hp) (k : T8 (T8 AObj) → Res) : Res := t8a h.t fun t => t8a t fun t => t8a t fun t => k t
/-- The run of a call by itself: what comes of it. -/
noncomputable def topX (tup : Bool) (v : AV) (h : Hp) : Res := cif tup (asT v fun l => deepX1 (deepX P 8) l h fun l _ => .ok (.g l)) (deepX P 8 v h fun d _ => .ok d)
noncomputable def byItself (tup : Bool) (cl : Cl) (t : T8 (T8 AObj)) (f : FuncId) (l : List DV) : Res := cif (tabOk t) (layL false l (onlyT t) fun a h => cl.call f a h fun v h => topX P tup v h) (bad 148)
noncomputable def resE (x : Res) (k : DV → Res) : Res := Res.rec (motive := fun _ => Res) k (fun n v => .bad n v) x
noncomputable def gE (d : DV) (k : List DV → Res) (z : Res) : Res := DV.rec (motive_1 := fun _ => Res) (motive_2 := fun _ => Unit) (fun _ => z) (fun l _ => k l) (fun _ _ _ _ => z) () (fun _ _ _ _ => ()) d
noncomputable def rDeep (tup : Bool) (cl : Cl) (f : FuncId) (_ : Cl) (a : List AV) (h : Hp) (k : K) : Res :=
  deep1 (deep P h 8) a fun l => tabF h fun t => resE (byItself P tup cl t f l) fun d => cif tup (gE d (fun l => layL true l h fun l h => k (.t l) h) (bad 149)) (layD true d h k)
end
end Go.Ev
namespace Go.Ev
open Go Go.RowKit
variable {r : DV}
/-- No block at all. -/
def rn0 (sy : Nat → Value) (w : World) : Rn := ⟨fun _ => none, fun _ => 0, fun _ => 0, fun _ => 0, sy, w, fun _ => 0⟩
theorem rn0_le {ρ : Rn} : (rn0 ρ.sy ρ.wb).le ρ := ⟨fun _ _ h => (by cases h), rfl, rfl, fun _ _ h => (by cases h)⟩
def Clo : AV → Prop
  | .b _ | .i _ _ | .s _ _ | .p0 | .sl0 | .m0 | .f0 | .if0 | .y _ => True
  | _ => False
mutual
/-- What a told value stands for; the blocks it lies in. -/
def DR' (P : Program) (w : World) (sy : Nat → Value) : DV → Value → List Nat → Prop
  | .v x, v, bs => bs = [] ∧ Clo x ∧ RV P (rn0 sy w) x v
  | .g l, v, bs => ∃ c, v = .agg c ∧ DL P w sy l c.toList bs
  | .l e n l, v, bs => ∃ a ad cap cs fz bs', v = .slice (some ad) n cap ∧ n ≤ cap ∧ (ad = ⟨a, 0, none⟩ ∧ cap * P.cellsOf e ≤ cs.size ∨ n = 0 ∧ cap = 0) ∧ w.heap[a]? = some (.cells cs e fz) ∧ l.length = n * P.cellsOf e ∧ l.length ≤ cs.size ∧
      DL P w sy l (cs.toList.take l.length) bs' ∧ bs = a :: bs'
def DL (P : Program) (w : World) (sy : Nat → Value) : List DV → List Value → List Nat → Prop
  | [], l, bs => l = [] ∧ bs = []
  | d :: ds, l, bs => ∃ v vs b1 b2, l = v :: vs ∧ DR' P w sy d v b1 ∧ DL P w sy ds vs b2 ∧ bs = b1 ++ b2
end
section
variable {P : Program}
/-- It hangs on the letters alone. -/
theorem clo_any {ρ ρ' : Rn} {x : AV} {v : Value} (h : Clo x) (hs : ρ'.sy = ρ.sy) (rv : RV P ρ x v) : RV P ρ' x v := by
  cases x <;> first | exact h.elim | (simp only [RV] at rv ⊢; first | exact rv | (rw [hs]; exact rv))
theorem cloF_ok {x : AV} {k : AV → Res} {z : Res} (h : cloF x k z = .ok r) : Clo x ∧ k x = .ok r ∨ ¬ Clo x ∧ z = .ok r := by
  cases x with
  | b b => cases b <;> exact .inl ⟨trivial, h⟩
  | i kd n =>
    refine .inl ⟨trivial, ?_⟩
    have h' : kdF kd (fun kd => intF n fun n => k (.i kd n)) = .ok r := h
    cases kd <;> simpa only [kdF, intF_eq] using h'
  | s n c =>
    refine .inl ⟨trivial, ?_⟩
    have h' : natF n (fun n => natF c fun c => k (.s n c)) = .ok r := h
    simpa only [natF_eq] using h'
  | y y =>
    refine .inl ⟨trivial, ?_⟩
    have h' : natF y (fun y => k (.y y)) = .ok r := h
    simpa only [natF_eq] using h'
  | _ => first | exact .inl ⟨trivial, h⟩ | exact .inr ⟨fun h => h, h⟩
theorem rowE_ok {x : AV} {s : Id → Nat → Nat → Res} {g : List AV → Res} {n : Nat} (h : rowE x s g (bad n) = .ok r) : (∃ b o m, x = .sl b o m ∧ s b o m = .ok r) ∨ ∃ l, x = .g l ∧ g l = .ok r := by
  cases x <;> first | exact .inl ⟨_, _, _, rfl, h⟩ | exact .inr ⟨_, rfl, h⟩ | exact bad_ok h
theorem rl_cells {ρ : Rn} {t : CT} {cs : Array Value} {q : Nat} (hq : q ≤ cs.size) (h : ∀ j, j < q → ∃ v, cs[j]? = some v ∧ RV P ρ (t.get j) v) : RL P ρ (t.cells q 0) (cs.toList.take q) := by
  rw [cells_eq]
  refine RL.of (by simp; omega) fun j hj => ?_
  simp only [List.length_map, List.length_range] at hj
  obtain ⟨v, h1, h2⟩ := h j hj
  refine ⟨v, ?_, ?_⟩
  · rw [List.getElem?_take, if_pos hj]; simpa using h1
  · simpa [List.getD, hj] using h2
variable {base : Nat}
/-- What is read is what is there. -/
theorem deep_ok {ρ : Rn} {h : Hp} {w : World} (s : Sim P base ρ h w) : ∀ (fuel : Nat) {x : AV} {v : Value} {k : DV → Res}, RV P ρ x v → deep P h fuel x k = .ok r → ∃ d bs, DR' P w ρ.sy d v bs ∧ k d = .ok r
  | 0, x, v, k, _, hx => bad_ok hx
  | fuel + 1, x, v, k, rv, hx => by
    have list : ∀ (l : List AV) (vs : List Value) (k : List DV → Res), RL P ρ l vs → deep1 (deep P h fuel) l k = .ok r → ∃ ds bs, DL P w ρ.sy ds vs bs ∧ ds.length = l.length ∧ k ds = .ok r := by
      intro l
      induction l with
      | nil => intro vs k rl hx; simp only [RL] at rl; subst rl; exact ⟨[], [], ⟨rfl, rfl⟩, rfl, hx⟩
      | cons a l ih =>
        intro vs k rl hx
        simp only [RL] at rl
        obtain ⟨v, vs', rfl, rv, rl⟩ := rl
        have hx' : deep P h fuel a (fun d => deep1 (deep P h fuel) l fun ds => k (d :: ds)) = .ok r := hx
        obtain ⟨d, b1, h1, hx'⟩ := deep_ok s fuel rv hx'
        obtain ⟨ds, b2, h2, h3, hx'⟩ := ih vs' _ rl hx'
        exact ⟨d :: ds, b1 ++ b2, ⟨v, vs', b1, b2, rfl, h1, h2, rfl⟩, by simp [h3], hx'⟩
    have hx' : cloF x (fun v => k (.v v)) (rowE x
      (fun b o n => natF n fun n => cif (an (Nat.beq o 0) (nt (inBr b))) (cellsAt b h fun _ e m t => natF (Nat.mul n (szOf P e)) fun q => cif (Nat.ble q m) (natF e fun e => deep1 (deep P h fuel) (t.cells q 0) fun l => k (.l e n l)) (bad 143)) (bad 144))
      (fun l => deep1 (deep P h fuel) l fun l => k (.g l)) (bad 141)) = .ok r := hx
    rcases cloF_ok hx' with ⟨h1, h2⟩ | ⟨_, h2⟩
    · exact ⟨.v x, [], ⟨rfl, h1, clo_any (ρ := ρ) (ρ' := rn0 ρ.sy w) h1 rfl rv⟩, h2⟩
    · clear hx hx'
      rcases rowE_ok h2 with ⟨b, o, n, rfl, h3⟩ | ⟨l, rfl, h3⟩
      · clear h2
        simp only [natF_eq, cif_eq] at h3
        rcases ite_ok h3 with ⟨ho, h4⟩ | ⟨_, h4⟩
        · clear h3
          obtain ⟨own, e, m, t, hb, h5⟩ := cellsAt_ok h4
          clear h4
          rcases ite_ok h5 with ⟨hq, h2⟩ | ⟨_, h2⟩
          · clear h5
            simp only [an_eq, nt_eq, Bool.and_eq_true, Nat.beq_eq, Bool.not_eq_true'] at ho
            obtain ⟨ho, hbr⟩ := ho
            subst ho
            simp only [RV] at rv
            obtain ⟨a, ad, cap, hba, rfl, hn, hc⟩ := rv
            have z := s.oz b a hba (.inr hbr)
            rw [z, Nat.add_zero] at hc
            have hh := s.ob b a hba
            rw [hb] at hh
            obtain ⟨k1, k2, k3, cs, lo, hi, ⟨e9, k4, k10⟩, k5, k6, k7, k8⟩ := hh
            rw [k10 (.inr hbr)] at k4
            simp only [z, Nat.zero_add] at k5 k6 k7
            have hq' : n * P.cellsOf e ≤ m := by simpa [Nat.ble_eq, szOf] using hq
            have hqe : Nat.mul n (szOf P e) = n * P.cellsOf e := rfl
            rw [hqe] at h2
            obtain ⟨ds, bs, d1, d2, d3⟩ := list _ _ _ (rl_cells (cs := cs) (q := n * P.cellsOf e) (by omega) fun j hj => k7 j (by omega)) h2
            have hl : ds.length = n * P.cellsOf e := by rw [d2, cells_eq]; simp
            refine ⟨.l e n ds, a :: bs, ⟨a, ad, cap, cs, (lo, hi), bs, rfl, hn, ?_, k4, hl, by omega, by rw [hl]; exact d1, rfl⟩, d3⟩
            rcases hc with ⟨c1, c2, _⟩ | ⟨c1, c2, _⟩
            · exact .inl ⟨c1, by rw [k2] at c2; omega⟩
            · exact .inr ⟨c1, c2⟩
          · exact bad_ok h2
        · exact bad_ok h4
      · simp only [RV] at rv
        obtain ⟨c, rfl, rl⟩ := rv
        obtain ⟨ds, bs, d1, d2, d3⟩ := list _ _ _ rl h3
        exact ⟨.g ds, bs, ⟨c, rfl, d1⟩, d3⟩
/-- What is read and left. -/
structure XO (P : Program) (base : Nat) (ρ : Rn) (h : Hp) (w : World) (h' : Hp) (bs : List Nat) : Prop where
  sim : Sim P base ρ h' w
  nd : bs.Nodup
  own : ∀ a ∈ bs, base ≤ a ∧ a < w.heap.size ∧ ∃ cs e lo hi, w.heap[a]? = some (.cells cs e (lo, hi)) ∧ Thaw P e cs.size lo hi
  was : ∀ a ∈ bs, ∃ b, ρ.blk b = some a ∧ Own h b ∧ ¬ Live h' b
  sub : ∀ b, Live h' b → hat b h'.t = hat b h.t
theorem XO.refl {ρ : Rn} {h : Hp} {w : World} (s : Sim P base ρ h w) : XO P base ρ h w h [] := ⟨s, .nil, fun a ha => (by cases ha), fun a ha => (by cases ha), fun _ _ => rfl⟩
theorem XO.trans {ρ : Rn} {h h' h'' : Hp} {w : World} {b1 b2 : List Nat} (x : XO P base ρ h w h' b1) (y : XO P base ρ h' w h'' b2) (s : Sim P base ρ h w) : XO P base ρ h w h'' (b1 ++ b2) := by
  have live : ∀ b, Live h'' b → Live h' b := fun b lb => by have := y.sub b lb; unfold Live at lb ⊢; rw [← this]; exact lb
  have own : ∀ b, Own h' b → Own h b := fun b ob => by have := x.sub b ob.live; unfold Own at ob ⊢; rw [← this]; exact ob
  refine ⟨y.sim, ?_, fun a ha => ?_, fun a ha => ?_, fun b lb => (y.sub b lb).trans (x.sub b (live b lb))⟩
  · rw [List.nodup_append]
    refine ⟨x.nd, y.nd, ?_⟩
    intro a ha c hc e
    subst e
    obtain ⟨b, g1, g2, g3⟩ := x.was a ha
    obtain ⟨b', q1, q2, q3⟩ := y.was a hc
    have lb' : Live h b' := (own b' q2).live
    have := s.inj b b' a g1 q1 g2 lb'
    subst this
    exact g3 q2.live
  · rcases List.mem_append.1 ha with ha | ha
    · exact x.own a ha
    · exact y.own a ha
  · rcases List.mem_append.1 ha with ha | ha
    · obtain ⟨b, g1, g2, g3⟩ := x.was a ha
      exact ⟨b, g1, g2, fun lb => g3 (live b lb)⟩
    · obtain ⟨b, g1, g2, g3⟩ := y.was a ha
      exact ⟨b, g1, own b g2, g3⟩
theorem deepX_ok {w : World} {ρ : Rn} : ∀ (fuel : Nat) {h : Hp} {x : AV} {v : Value} {k : DV → Hp → Res}, Sim P base ρ h w → RV P ρ x v → deepX P fuel x h k = .ok r → ∃ d bs h', DR' P w ρ.sy d v bs ∧ XO P base ρ h w h' bs ∧ k d h' = .ok r
  | 0, h, x, v, k, _, _, hx => bad_ok hx
  | fuel + 1, h, x, v, k, s, rv, hx => by
    have list : ∀ (l : List AV) (vs : List Value) (h : Hp) (k : List DV → Hp → Res), Sim P base ρ h w → RL P ρ l vs → deepX1 (deepX P fuel) l h k = .ok r → ∃ ds bs h', DL P w ρ.sy ds vs bs ∧ ds.length = l.length ∧ XO P base ρ h w h' bs ∧ k ds h' = .ok r := by
      intro l
      induction l with
      | nil => intro vs h k s rl hx; simp only [RL] at rl; subst rl; exact ⟨[], [], h, ⟨rfl, rfl⟩, rfl, .refl s, hx⟩
      | cons a l ih =>
        intro vs h k s rl hx
        simp only [RL] at rl
        obtain ⟨v, vs', rfl, rv, rl⟩ := rl
        have hx' : deepX P fuel a h (fun d h => deepX1 (deepX P fuel) l h fun ds h => k (d :: ds) h) = .ok r := hx
        obtain ⟨d, b1, h1, g1, g2, hx'⟩ := deepX_ok fuel s rv hx'
        obtain ⟨ds, b2, h2, g3, g4, g5, hx'⟩ := ih vs' h1 _ g2.sim rl hx'
        exact ⟨d :: ds, b1 ++ b2, h2, ⟨v, vs', b1, b2, rfl, g1, g3, rfl⟩, by simp [g4], g2.trans g5 s, hx'⟩
    have hx' : cloF x (fun v => k (.v v) h) (rowE x
      (fun b o n => natF n fun n => cif (Nat.beq o 0) (cellsAt b h fun own e m t => cif own (natF (Nat.mul n (szOf P e)) fun q => cif (Nat.ble q m) (natF e fun e => deepX1 (deepX P fuel) (t.cells q 0) ⟨hput b .no h.t, h.nx⟩ fun l h => k (.l e n l) h) (bad 143)) (bad 145)) (bad 144))
      (fun l => deepX1 (deepX P fuel) l h fun l h => k (.g l) h) (bad 141)) = .ok r := hx
    rcases cloF_ok hx' with ⟨h1, h2⟩ | ⟨_, h2⟩
    · exact ⟨.v x, [], h, ⟨rfl, h1, clo_any (ρ := ρ) (ρ' := rn0 ρ.sy w) h1 rfl rv⟩, .refl s, h2⟩
    · clear hx hx'
      rcases rowE_ok h2 with ⟨b, o, n, rfl, h3⟩ | ⟨l, rfl, h3⟩
      · clear h2
        simp only [natF_eq, cif_eq] at h3
        rcases ite_ok h3 with ⟨ho, h4⟩ | ⟨_, h4⟩
        · clear h3
          obtain ⟨own, e, m, t, hb, h5⟩ := cellsAt_ok h4
          clear h4
          rcases ite_ok h5 with ⟨how, h6⟩ | ⟨_, h6⟩
          · clear h5
            rcases ite_ok h6 with ⟨hq, h2⟩ | ⟨_, h2⟩
            · clear h6
              have ho : o = 0 := by simpa using ho
              subst ho
              subst how
              simp only [RV] at rv
              obtain ⟨a, ad, cap, hba, rfl, hn, hc⟩ := rv
              have z := s.zero hba hb
              rw [z, Nat.add_zero] at hc
              have hh := s.ob b a hba
              rw [hb] at hh
              obtain ⟨k1, k2, k3, cs, lo, hi, ⟨e9, k4, k10⟩, k5, k6, k7, k8⟩ := hh
              rw [k10 (.inl rfl)] at k4
              simp only [z, Nat.zero_add] at k5 k6 k7
              obtain ⟨k8, k9⟩ := k8 rfl
              have hq' : n * P.cellsOf e ≤ m := by simpa [Nat.ble_eq, szOf] using hq
              have hqe : Nat.mul n (szOf P e) = n * P.cellsOf e := rfl
              rw [hqe] at h2
              have st := Stp.kill s hba
              have hob : Own h b := .inl ⟨e, m, t, hb⟩
              obtain ⟨ds, bs, h', d1, d2, d3, d4⟩ := list _ _ _ _ st.sim (rl_cells (cs := cs) (q := n * P.cellsOf e) (by omega) fun j hj => k7 j (by omega)) h2
              have hl : ds.length = n * P.cellsOf e := by rw [d2, cells_eq]; simp
              have x1 : XO P base ρ h w ⟨hput b .no h.t, h.nx⟩ [a] := by
                refine ⟨st.sim, by simp, fun a' ha' => ?_, fun a' ha' => ?_, fun b' lb => ?_⟩
                · rw [List.mem_singleton] at ha'; subst ha'; exact ⟨k8, s.lt b _ hba, cs, e, lo, hi, k4, k9⟩
                · rw [List.mem_singleton] at ha'; subst ha'; exact ⟨b, hba, hob, fun lb => lb (hat_hput_self ..)⟩
                · exact hat_hput_ne _ _ fun e => by subst e; exact lb (hat_hput_self ..)
              refine ⟨.l e n ds, a :: bs, h', ⟨a, ad, cap, cs, (lo, hi), bs, rfl, hn, ?_, k4, hl, by omega, by rw [hl]; exact d1, rfl⟩, x1.trans d3 s, d4⟩
              rcases hc with ⟨c1, c2, _⟩ | ⟨c1, c2, _⟩
              · exact .inl ⟨c1, by rw [k2] at c2; omega⟩
              · exact .inr ⟨c1, c2⟩
            · exact bad_ok h2
          · exact bad_ok h6
        · exact bad_ok h4
      · simp only [RV] at rv
        obtain ⟨c, rfl, rl⟩ := rv
        obtain ⟨ds, bs, h', d1, d2, d3, d4⟩ := list _ _ _ _ s rl h3
        exact ⟨.g ds, bs, h', ⟨c, rfl, d1⟩, d3, d4⟩
end
end Go.Ev

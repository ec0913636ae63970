/- Part of the proof of CompileForCardSaid. -/
import Derived.Test.YthhgndcpeeifeaaGreatDoorShelf
import Derived.Test.YthhgndcpeeifeaaGreatDoorE29
import Derived.Test.YthhgndcpeeifeaaGreatDoorE16
import Derived.Test.YthhgndcpeeifeaaGreatDoorE30
set_option linter.unusedVariables false
set_option linter.unusedSimpArgs false
set_option linter.unusedSectionVars false
set_option linter.constructorNameAsVariable false
namespace Go.Ev
open Go Go.Proofs Go.Shelf
def ren166 : Ren :=
  { f := fun x => match x with
      | 166 => 305
      | 240 => 326
      | 276 => 334
      | n => n
    t := fun x => match x with
      | 37 => 75
      | 70 => 360
      | 72 => 362
      | 75 => 419
      | 80 => 367
      | 164 => 430
      | n => n
    g := fun x => x }
theorem lays166 : Lays.n166 Tryz.prog ren166 :=
  { mixed := by kernel_rfl, f166 := Tryz.func305.trans (congrArg some (by rfl)), f240 := Tryz.func326.trans (congrArg some (by rfl)), f276 := Tryz.func334.trans (congrArg some (by rfl)),
    t0 := Tryz.underlying0, a0 := Tryz.isAgg0, z0 := Tryz.sizeOf0, v0 := Tryz.zeroValue0, t3 := Tryz.underlying3, a3 := Tryz.isAgg3, z3 := Tryz.sizeOf3, v3 := Tryz.zeroValue3, t4 := Tryz.underlying4, a4 := Tryz.isAgg4, z4 := Tryz.sizeOf4, v4 := Tryz.zeroValue4,
    t9 := Tryz.underlying9, a9 := Tryz.isAgg9, z9 := Tryz.sizeOf9, v9 := Tryz.zeroValue9, t20 := Tryz.underlying20, a20 := Tryz.isAgg20, z20 := Tryz.sizeOf20, v20 := Tryz.zeroValue20, t37 := Tryz.underlying75, a37 := Tryz.isAgg75, z37 := Tryz.sizeOf75, v37 := Tryz.zeroValue75,
    t70 := Tryz.underlying360, a70 := Tryz.isAgg360, z70 := Tryz.sizeOf360, v70 := Tryz.zeroValue360, t72 := Tryz.underlying362, a72 := Tryz.isAgg362, z72 := Tryz.sizeOf362, v72 := Tryz.zeroValue362, t75 := Tryz.underlying419, a75 := Tryz.isAgg419, z75 := Tryz.sizeOf419, v75 := Tryz.zeroValue419,
    t164 := Tryz.underlying430, a164 := Tryz.isAgg430, z164 := Tryz.sizeOf430, v164 := Tryz.zeroValue430 }
theorem extra166 : Builder.Extra Tryz.prog ren166 where
  sizeBuilder := by kernel_rfl
  liesBuilder := by kernel_rfl
  t5 := Tryz.underlying5
  a5 := Tryz.isAgg5
  z5 := Tryz.sizeOf5
  v5 := Tryz.zeroValue5
  infoByte := by kernel_rfl
  cellsByte := by kernel_rfl
  sizeByte := by kernel_rfl
  neB5 := by decide
end Go.Ev
namespace Go.Ev
open Go Go.RowKit Go.Proofs
abbrev Rt := FuncId → Option (Cl → List AV → Hp → K → Res)
noncomputable abbrev PZ := Tryz.prog
noncomputable def R0 : Rt := fun f =>
  cif (Nat.beq f 305) (some (rWrite PZ 365 1 5)) (cif (Nat.beq f 25) (some rTokens) (cif (Nat.beq f 136) (some rPTokens) (cif (Nat.beq f 213) (some (rString 5)) (cif (Nat.beq f 111) (some rClone) (cif (Nat.beq f 325) (some (rFormat PZ (idOf 8) pow10N idl 325)) (cif (Nat.beq f 55) (some rFields) none))))))
theorem mixedZ : PZ.follows .mixedOrders = true := by kernel_rfl
theorem R0_ok (base : Nat) : ∀ f r, R0 f = some r → RuleOk PZ base f r := by
  intro f r h
  unfold R0 at h
  simp only [cif_eq, Nat.beq_eq] at h
  split at h
  · rename_i e; subst e; cases h
    exact rWrite_ok lays166 extra166 (E := 365) (O := 1) (by decide +kernel) (by kernel_rfl)
  split at h
  · rename_i e; subst e; cases h
    exact rTokens_ok
  split at h
  · rename_i e; subst e; cases h
    exact rPTokens_ok
  split at h
  · rename_i e; subst e; cases h
    have := rString_ok (base := base) Tryz.lays169 Tryz.Builder_Extra_169
    exact this
  split at h
  · rename_i e; subst e; cases h
    have h111 : Tryz.laysM316_ren.f 316 = 111 := by kernel_rfl
    have := rClone_ok (base := base) Tryz.laysM316
    rw [h111] at this; exact this
  split at h
  · rename_i e; subst e; cases h
    have h325 : Tryz.laysM173_ren.f 173 = 325 := by kernel_rfl
    have := rFormat_ok (base := base) Tryz.laysM173 named idl_ok (g := 8) (of_decide_eq_true (by kernel_rfl)) (by kernel_rfl) pow10_eq (by kernel_rfl)
    rw [h325] at this; exact this
  split at h
  · rename_i e; subst e; cases h
    exact rFields_ok
  · cases h
/-- A table of rules more. -/
noncomputable def add (f : Nat) (r : Cl → List AV → Hp → K → Res) (R : Rt) : Rt := fun g => cif (Nat.beq f g) (some r) (R g)
theorem add_ok {base : Nat} {f : Nat} {x : Cl → List AV → Hp → K → Res} {R : Rt} (hx : RuleOk PZ base f x) (hR : ∀ f r, R f = some r → RuleOk PZ base f r) : ∀ g r, add f x R g = some r → RuleOk PZ base g r := by
  intro g r h
  unfold add at h
  rw [cif_eq] at h
  split at h
  · rename_i e
    have := Nat.eq_of_beq_eq_true e
    subst this
    cases h; exact hx
  · exact hR g r h
noncomputable def E (R : Rt) : Cl := run PZ R idl 1000000
theorem E_ok {R : Rt} {base : Nat} (hR : ∀ f r, R f = some r → RuleOk PZ base f r) : ClOk PZ base (E R) :=
  run_ok named idl_ok (fun _ h => ops_ok h) (fun _ h => draws_ok mixedZ h) hR 1000000
end Go.Ev
namespace Go.Ev
open Go Go.RowKit Go.Proofs
variable {r : DV}
/-! a told value out of a number, byte by byte -/
section
variable {α : Type}
noncomputable def dB (c : Nat) (k : Nat → Nat → α) : α := natF (Nat.mod c 256) fun b => natF (Nat.div c 256) fun c => k b c
noncomputable def dN (n c : Nat) (k : Nat → Nat → α) : α := natF (Nat.mod c (Nat.pow 256 n)) fun b => natF (Nat.div c (Nat.pow 256 n)) fun c => k b c
/-- A number of whatever length: how many bytes, then these. -/
noncomputable def dV (c : Nat) (k : Nat → Nat → α) : α := dB c fun n c => dN n c k
noncomputable def dLs (ih : Nat → (DV → Nat → α) → α) (n : Nat) : Nat → (List DV → Nat → α) → α :=
  Nat.rec (motive := fun _ => Nat → (List DV → Nat → α) → α) (fun c k => k [] c) (fun _ r c k => ih c fun d c => r c fun l c => k (d :: l) c) n
noncomputable def kdN (n : Nat) : IntKind := Nat.rec (motive := fun _ => IntKind) .i8 (fun n _ => Nat.rec (motive := fun _ => IntKind) .i16 (fun n _ => Nat.rec (motive := fun _ => IntKind) .i32 (fun n _ => Nat.rec (motive := fun _ => IntKind) .i64 (fun n _ => Nat.rec (motive := fun _ => IntKind) .u8 (fun n _ => Nat.rec (motive := fun _ => IntKind) .u16 (fun n _ => Nat.rec (motive := fun _ => IntKind) .u32 (fun _ _ => .u64) n) n) n) n) n) n) n
noncomputable def decD (z : α) (fuel : Nat) : Nat → (DV → Nat → α) → α :=
  Nat.rec (motive := fun _ => Nat → (DV → Nat → α) → α) (fun _ _ => z)
    (fun _ ih c k => dB c fun g c => cif (Nat.ble g 199) (k (.v (.i .i64 (.ofNat g))) c)
      (cif (Nat.beq g 212) (dV c fun n c => dLs ih n c fun l c => k (.g l) c)
      (cif (Nat.beq g 205) (dV c fun n c => dN n c fun s c => k (.v (.s n s)) c)
      (cif (Nat.beq g 200) (dV c fun n c => k (.v (.i .i64 (.ofNat n))) c)
      (cif (Nat.beq g 206) (dV c fun n c => k (.v (.y n)) c)
      (cif (Nat.beq g 203) (k (.v (.b false)) c) (cif (Nat.beq g 204) (k (.v (.b true)) c)
      (cif (Nat.beq g 213) (dV c fun e c => dV c fun n c => dV c fun m c => dLs ih m c fun l c => k (.l e n l) c)
      (cif (Nat.beq g 208) (k (.v .sl0) c) (cif (Nat.beq g 201) (dV c fun n c => k (.v (.i .i64 (.negSucc n))) c)
      (cif (Nat.beq g 202) (dB c fun kd c => dV c fun n c => k (.v (.i (kdN kd) (.ofNat n))) c)
      (cif (Nat.beq g 207) (k (.v .p0) c) (cif (Nat.beq g 209) (k (.v .m0) c) (cif (Nat.beq g 210) (k (.v .f0) c) (cif (Nat.beq g 211) (k (.v .if0) c) z))))))))))))))) fuel
end
/-- The told value of a number. -/
noncomputable def decT (c : Nat) : DV := decD (.v .u) 12 c fun d _ => d
/-! the same tables -/
noncomputable def eqAV (a b : AV) : Bool := match a, b with
  | .u, .u => true
  | a, b => same a b
theorem eqAV_ok {a b : AV} (h : eqAV a b = true) : a = b := by
  unfold eqAV at h
  split at h
  · rfl
  · exact same_eq _ _ h
noncomputable def eq8 {α : Type} (f : α → α → Bool) (a b : T8 α) : Bool := an (f a.a b.a) (an (f a.b b.b) (an (f a.c b.c) (an (f a.d b.d) (an (f a.e b.e) (an (f a.f b.f) (an (f a.g b.g) (f a.h b.h)))))))
theorem eq8_ok {α : Type} {f : α → α → Bool} (hf : ∀ {x y}, f x y = true → x = y) {a b : T8 α} (h : eq8 f a b = true) : a = b := by
  obtain ⟨a1, a2, a3, a4, a5, a6, a7, a8⟩ := a
  obtain ⟨b1, b2, b3, b4, b5, b6, b7, b8⟩ := b
  simp only [eq8, an_eq, Bool.and_eq_true] at h
  obtain ⟨h1, h2, h3, h4, h5, h6, h7, h8⟩ := h
  rw [hf h1, hf h2, hf h3, hf h4, hf h5, hf h6, hf h7, hf h8]
noncomputable def eqCT (a b : CT) : Bool := match a, b with
  | .r1 x, .r1 y => eq8 eqAV x y
  | .r2 x, .r2 y => eq8 (eq8 eqAV) x y
  | .r3 x, .r3 y => eq8 (eq8 (eq8 eqAV)) x y
  | _, _ => false
theorem eqCT_ok {a b : CT} (h : eqCT a b = true) : a = b := by
  unfold eqCT at h
  split at h
  · rw [eq8_ok eqAV_ok h]
  · rw [eq8_ok (eq8_ok eqAV_ok) h]
  · rw [eq8_ok (eq8_ok (eq8_ok eqAV_ok)) h]
  · cases h
noncomputable def eqOb (a b : AObj) : Bool := match a, b with
  | .no, .no => true
  | .c o e n t, .c o' e' n' t' => an (cond o o' (nt o')) (an (Nat.beq e e') (an (Nat.beq n n') (eqCT t t')))
  | _, _ => false
theorem eqOb_ok {a b : AObj} (h : eqOb a b = true) : a = b := by
  unfold eqOb at h
  split at h
  · rfl
  · rename_i o e n t o' e' n' t'
    simp only [an_eq, nt_eq, Bool.and_eq_true] at h
    obtain ⟨h1, h2, h3, h4⟩ := h
    have ho : o = o' := by cases o <;> cases o' <;> first | rfl | cases h1
    rw [ho, Nat.eq_of_beq_eq_true h2, Nat.eq_of_beq_eq_true h3, eqCT_ok h4]
  · cases h
noncomputable def eqTb (a b : T8 (T8 AObj)) : Bool := eq8 (eq8 eqOb) a b
theorem eqTb_ok {a b : T8 (T8 AObj)} (h : eqTb a b = true) : a = b := eq8_ok (eq8_ok eqOb_ok) h
/-! known calls -/
section
variable (P : Program)
/-- What is done with what came. -/
noncomputable def giveD (tup : Bool) (d : DV) (h : Hp) (k : K) : Res := cif tup (gE d (fun l => layL true l h fun l h => k (.t l) h) (bad 149)) (layD true d h k)
noncomputable def pickT (tup : Bool) (x : AV) (h : Hp) (k : K) (tbl : List (AV × DV)) : Res :=
  List.rec (motive := fun _ => Res) (bad 155) (fun p _ ih => Prod.rec (motive := fun _ => Res) (fun x0 d => cif (same x x0) (giveD tup d h k) ih) p) tbl
noncomputable def rKnown (tup : Bool) (tbl : List (AV × DV)) (_ : Cl) (a : List AV) (h : Hp) (k : K) : Res :=
  x1 a fun x => tabF h fun t => cif (eqTb t T0) (pickT tup x h k tbl) (bad 156)
/-- A text's value. -/
def isTx : AV → Prop
  | .s _ _ | .y _ => True
  | _ => False
theorem deep_tx {x : AV} (hx : isTx x) (h : Hp) (k : DV → Res) : deep P h 8 x k = k (.v x) := by
  cases x <;> first | exact hx.elim | skip
  · rename_i n c
    show natF n (fun n => natF c fun c => k (.v (.s n c))) = _
    simp only [natF_eq]
  · rename_i y
    show natF y (fun y => k (.v (.y y))) = _
    simp only [natF_eq]
end
theorem pickT_ok {tup : Bool} {x : AV} {h : Hp} {k : K} : ∀ {tbl : List (AV × DV)}, pickT tup x h k tbl = .ok r → ∃ d, (x, d) ∈ tbl ∧ giveD tup d h k = .ok r
  | [], hx => bad_ok hx
  | (x0, d) :: tbl, hx => by
    have hx' : cif (same x x0) (giveD tup d h k) (pickT tup x h k tbl) = .ok r := hx
    rw [cif_eq] at hx'
    rcases ite_ok hx' with ⟨h1, h2⟩ | ⟨_, h2⟩
    · rw [same_eq _ _ h1]
      exact ⟨d, by simp, h2⟩
    · obtain ⟨d', h3, h4⟩ := pickT_ok h2
      exact ⟨d', by simp [h3], h4⟩
/-- A table of calls, each run by itself. -/
theorem rKnown_ok2 {base : Nat} {tup : Bool} {f : FuncId} {tbl : List (AV × DV)} (ht : ∀ p ∈ tbl, isTx p.1 ∧ ∃ cl0 : Cl, (∀ base, ClOk PZ base cl0) ∧ byItself PZ tup cl0 T0 f [.v p.1] = .ok p.2) : RuleOk PZ base f (rKnown tup tbl) := by
  intro cl hcl r args args' h k ρ w rl s hx
  obtain ⟨x, rfl, hx1⟩ := x1_ok (show x1 args _ = .ok r from hx)
  clear hx
  have hx2 : tabF h (fun t => cif (eqTb t T0) (pickT tup x h k tbl) (bad 156)) = .ok r := hx1
  obtain ⟨cl0, h0, key⟩ : ∃ cl0 : Cl, (∀ base, ClOk PZ base cl0) ∧ rDeep PZ tup cl0 f cl [x] h k = .ok r := by
    unfold tabF at hx2
    rw [t8a_eq, t8a_eq, t8a_eq] at hx2
    simp only [cif_eq] at hx2
    obtain ⟨h1, h2⟩ := ite_bad hx2
    obtain ⟨d, h3, h4⟩ := pickT_ok h2
    obtain ⟨g1, cl0, h0, g2⟩ := ht _ h3
    refine ⟨cl0, h0, ?_⟩
    show deep1 (deep PZ h 8) [x] (fun l => tabF h fun t => resE (byItself PZ tup cl0 t f l) fun d => giveD tup d h k) = .ok r
    show deep PZ h 8 x (fun d => tabF h fun t => resE (byItself PZ tup cl0 t f [d]) fun d => giveD tup d h k) = .ok r
    rw [deep_tx PZ g1]
    unfold tabF
    rw [t8a_eq, t8a_eq, t8a_eq, eqTb_ok h1]
    simp only at g2 ⊢
    rw [g2]
    exact h4
  exact rDeep_ok (P := PZ) (of_decide_eq_true (by kernel_rfl)) h0 cl hcl [x] args' h k ρ w rl s key
theorem rKnown_ok {base : Nat} {tup : Bool} {cl0 : Cl} {f : FuncId} {tbl : List (AV × DV)} (h0 : ∀ base, ClOk PZ base cl0) (ht : ∀ p ∈ tbl, isTx p.1 ∧ byItself PZ tup cl0 T0 f [.v p.1] = .ok p.2) : RuleOk PZ base f (rKnown tup tbl) :=
  rKnown_ok2 fun p hp => ⟨(ht p hp).1, cl0, h0, (ht p hp).2⟩
/-! what a call comes to -/
theorem sim_later {ρ : Rn} {W W' : World} (s : Sim PZ W.heap.size ρ (onlyT T0) W) (b : Below W.heap.size W W') : ∃ ρ', ρ'.sy = ρ.sy ∧ Sim PZ W'.heap.size ρ' (onlyT T0) W' := by
  have s2 := (Stp.apart s b).sim
  exact ⟨ρ.tab W', rfl, (tab_sim s2 (of_decide_eq_true (by kernel_rfl)) (fun b hb => hat_onlyT hb) (by kernel_rfl)).1⟩
end Go.Ev
namespace Go.Ev
open Go Go.RowKit Go.Proofs
variable {r : DV}
theorem run_at {R : Rt} (hR : ∀ base f r, R f = some r → RuleOk PZ base f r) {W : World} {ρ : Rn} (s : Sim PZ W.heap.size ρ (onlyT T0) W) {f : FuncId} {args : List AV} {args' : Array Value} (rl : RL PZ ρ args args'.toList) {k : K}
    (en : (callFunc f args').run PZ W = .ok (.enter f args') W) (hx : (E R).call f args (onlyT T0) k = .ok r) :
    Calls PZ f args' W fun e w' => ∃ v' ρ' v h', e = .returned v' ∧ RV PZ ρ' v v' ∧ k v h' = .ok r ∧ Below W.heap.size W w' := by
  rcases (E_ok (hR _)).call f args args' (onlyT T0) k ρ W rl s hx with ⟨v, w', h1, _⟩ | ⟨_, h2⟩
  · rw [en] at h1; cases h1
  · refine h2.mono ?_
    rintro e w' ⟨v', ρ', v, h', h1, h2, h3, h4⟩
    exact ⟨v', ρ', v, h', h1, h3, h4, h2.bl⟩
/-- It says true. -/
theorem run_true {R : Rt} (hR : ∀ base f r, R f = some r → RuleOk PZ base f r) {W : World} {ρ : Rn} (s : Sim PZ W.heap.size ρ (onlyT T0) W) {f : FuncId} {args : List AV} {args' : Array Value} (rl : RL PZ ρ args args'.toList)
    (en : (callFunc f args').run PZ W = .ok (.enter f args') W) (hx : (E R).call f args (onlyT T0) (fun v _ => .ok (.v v)) = .ok (.v (.b true))) :
    Calls PZ f args' W fun e w' => e = .returned (.bool true) ∧ Below W.heap.size W w' := by
  refine (run_at hR s rl en hx).mono ?_
  rintro e w' ⟨v', ρ', v, h', rfl, h2, h3, h4⟩
  cases h3
  simp only [RV] at h2
  exact ⟨by rw [h2], h4⟩
/-- No error, and the model is a struct of seven places. -/
noncomputable def errK (v : AV) : Res := asT v fun l => gL l 0 (fun a => gL l 1 (fun b => gL l 2 (fun c => cif (Nat.beq (lenL l) 3) (asG a fun m => cif (an (Nat.beq (lenL m) 7) (allSc m)) (.ok (.v b)) (bad 157)) (bad 157)) (bad 157)) (bad 157)) (bad 157)
theorem run_noerr {R : Rt} (hR : ∀ base f r, R f = some r → RuleOk PZ base f r) {W : World} {ρ : Rn} (s : Sim PZ W.heap.size ρ (onlyT T0) W) {f : FuncId} {args : List AV} {args' : Array Value} (rl : RL PZ ρ args args'.toList)
    (en : (callFunc f args').run PZ W = .ok (.enter f args') W) (hx : (E R).call f args (onlyT T0) (fun v _ => errK v) = .ok (.v (.i .i64 0))) :
    Calls PZ f args' W fun e w' => (∃ (vs : List Value) (c : Value), e = .returned (.tuple #[.agg vs.toArray, .int .i64 0, c]) ∧ vs.length = 7 ∧ ∀ u ∈ vs, u.oneCell' = true) ∧ Below W.heap.size W w' := by
  refine (run_at hR s rl en hx).mono ?_
  rintro e w' ⟨v', ρ', v, h', rfl, h2, h3, h4⟩
  refine ⟨?_, h4⟩
  cases v with
  | t l =>
    match l, h3 with
    | [], q => exact bad_ok q
    | [_], q => exact bad_ok q
    | [_, _], q => exact bad_ok q
    | [a, b, c], q =>
      cases a with
      | g m =>
        have q' : cif (an (Nat.beq (lenL m) 7) (allSc m)) (Res.ok (.v b)) (bad 157) = .ok (.v (.i .i64 0)) := q
        rw [cif_eq] at q'
        obtain ⟨q1, q2⟩ := ite_bad q'
        rw [an_eq, Bool.and_eq_true] at q1
        have q3 := Nat.eq_of_beq_eq_true q1.1
        rw [lenL_eq] at q3
        cases q2
        simp only [RV, RL] at h2
        obtain ⟨cs, rfl, x, y, e1, hg, x2, y2, e2, h5, x3, y3, e3, _, e4⟩ := h2
        subst e4
        subst e3
        subst e2
        subst h5
        obtain ⟨ms, rfl, hm⟩ := hg
        refine ⟨ms.toList, x3, ?_, by rw [← RL.length hm, q3], allSc_ok q1.2 hm⟩
        rw [← Array.toArray_toList (xs := cs), e1, Array.toArray_toList]
      | _ => exact bad_ok q
    | a :: b :: c :: d :: t, q =>
      have q' : (cif (Nat.beq (lenL (a :: b :: c :: d :: t)) 3) (asG a fun m => cif (an (Nat.beq (lenL m) 7) (allSc m)) (.ok (.v b)) (bad 157)) (bad 157) : Res) = .ok (.v (.i .i64 0)) := q
      rw [cif_eq, if_neg (by rw [lenL_eq]; simp)] at q'
      exact bad_ok q'
  | _ => exact bad_ok h3
end Go.Ev
namespace Go.Ev
open Go Go.RowKit Go.Proofs
noncomputable def R1 : Rt := add 15 (rDeep PZ true (E R0) 15) R0
noncomputable def R2 : Rt := add 18 (rDeep PZ true (E R1) 18) R1
noncomputable def R3 : Rt := add 42 (rDeep PZ true (E R2) 42) R2
theorem gz : PZ.globals.size ≤ 64 := of_decide_eq_true (by kernel_rfl)
theorem R1_ok (base : Nat) : ∀ f r, R1 f = some r → RuleOk PZ base f r := add_ok (rDeep_ok gz fun b => E_ok (R0_ok b)) (R0_ok base)
theorem R2_ok (base : Nat) : ∀ f r, R2 f = some r → RuleOk PZ base f r := add_ok (rDeep_ok gz fun b => E_ok (R1_ok b)) (R1_ok base)
theorem R3_ok (base : Nat) : ∀ f r, R3 f = some r → RuleOk PZ base f r := add_ok (rDeep_ok gz fun b => E_ok (R2_ok b)) (R2_ok base)
/-- What Read tells of a source is known. -/
noncomputable def RC (y : AV) (d : DV) : Rt := add 13 (rKnown true [(y, d)]) R3
theorem RC_ok {y : AV} {d : DV} (hy : isTx y) (h : byItself PZ true (E R3) T0 13 [.v y] = .ok d) (base : Nat) : ∀ f r, RC y d f = some r → RuleOk PZ base f r :=
  add_ok (rKnown_ok (cl0 := E R3) (fun b => E_ok (R3_ok b)) fun p hp => by
    rw [List.mem_singleton] at hp
    subst hp
    exact ⟨hy, h⟩) (R3_ok base)
/-- What Compile tells of two sources is known. -/
noncomputable def RL2 (y z : AV) (d e : DV) : Rt := add 9 (rKnown true [(y, d), (z, e)]) R0
theorem RL2_ok {y z : AV} {d e dy dz : DV} (hy : isTx y) (hz : isTx z) (ry : byItself PZ true (E R3) T0 13 [.v y] = .ok dy) (rz : byItself PZ true (E R3) T0 13 [.v z] = .ok dz)
    (hd : byItself PZ true (E (RC y dy)) T0 9 [.v y] = .ok d) (he : byItself PZ true (E (RC z dz)) T0 9 [.v z] = .ok e) (base : Nat) : ∀ f r, RL2 y z d e f = some r → RuleOk PZ base f r :=
  add_ok (rKnown_ok2 fun p hp => by
    simp only [List.mem_cons, List.not_mem_nil, or_false] at hp
    rcases hp with rfl | rfl
    · exact ⟨hy, _, fun b => E_ok (RC_ok hy ry b), hd⟩
    · exact ⟨hz, _, fun b => E_ok (RC_ok hz rz b), he⟩) (R0_ok base)
/-- They are alike, and the first one is a model. -/
def saysTrue (f : FuncId) (R : Rt) (args : List AV) : Prop := (E R).call f args (onlyT T0) (fun v _ => .ok (.v v)) = .ok (.v (.b true))
def noErr (R : Rt) (y : AV) : Prop := (E R).call 9 [y] (onlyT T0) (fun v _ => errK v) = .ok (.v (.i .i64 0))
end Go.Ev

/- Part of the proof of CompileForCardSaid. -/
import Derived.Test.YthhgndcpeeifeaaGreatDoorE07
set_option linter.unusedVariables false
set_option linter.unusedSimpArgs false
set_option linter.unusedSectionVars false
set_option linter.constructorNameAsVariable false
namespace Go.Ev
open Go Go.RowKit
/-- It goes on in one way, or never. -/
def Lin {β : Type} (G : (β → Res) → Res) : Prop := (∃ n a, ∀ k, G k = .bad n a) ∨ ∃ v, ∀ k, G k = k v
section
variable {β γ : Type}
theorem lin_k (v : β) : Lin fun k => k v := .inr ⟨v, fun _ => rfl⟩
theorem lin_bad (n : Nat) (a : AV) : Lin (β := β) fun _ => .bad n a := .inl ⟨n, a, fun _ => rfl⟩
theorem lin_bad' (n : Nat) : Lin (β := β) fun _ => bad n := .inl ⟨n, .u, fun _ => rfl⟩
theorem lin_cif {b : Bool} {x y : (β → Res) → Res} (hx : Lin x) (hy : Lin y) : Lin fun k => cif b (x k) (y k) := by
  cases b
  · exact hy
  · exact hx
theorem lin_natF {n : Nat} {K : (β → Res) → Nat → Res} (h : ∀ n, Lin fun k => K k n) : Lin fun k => natF n (K k) := by simp only [natF_eq]; exact h n
theorem lin_intF {n : Int} {K : (β → Res) → Int → Res} (h : ∀ n, Lin fun k => K k n) : Lin fun k => intF n (K k) := by simp only [intF_eq]; exact h n
theorem lin_bF {b : Bool} {K : (β → Res) → AV → Res} (h : ∀ v, Lin fun k => K k v) : Lin fun k => bF b (K k) := by simp only [bF_eq]; exact h _
theorem lin_sF {n c : Nat} {K : (β → Res) → AV → Res} (h : ∀ v, Lin fun k => K k v) : Lin fun k => sF n c (K k) := by simp only [sF_eq]; exact h _
theorem lin_wrF {kd : IntKind} {n : Int} {K : (β → Res) → AV → Res} (h : ∀ v, Lin fun k => K k v) : Lin fun k => wrF kd (lim kd) n (K k) := by simp only [wrF_eq]; exact h _
theorem lin_asI {v : AV} {K : (β → Res) → IntKind → Int → Res} (h : ∀ kd n, Lin fun k => K k kd n) : Lin fun k => asI v (K k) := by cases v <;> first | exact h _ _ | exact .inl ⟨_, _, fun _ => rfl⟩
theorem lin_asB {v : AV} {K : (β → Res) → Bool → Res} (h : ∀ b, Lin fun k => K k b) : Lin fun k => asB v (K k) := by cases v <;> first | exact h _ | exact .inl ⟨_, _, fun _ => rfl⟩
theorem lin_asS {v : AV} {K : (β → Res) → Nat → Nat → Res} (h : ∀ n c, Lin fun k => K k n c) : Lin fun k => asS v (K k) := by cases v <;> first | exact h _ _ | exact .inl ⟨_, _, fun _ => rfl⟩
theorem lin_asP {v : AV} {K : (β → Res) → Id → Nat → Res} (h : ∀ b o, Lin fun k => K k b o) : Lin fun k => asP v (K k) := by cases v <;> first | exact h _ _ | exact .inl ⟨_, _, fun _ => rfl⟩
theorem lin_asSl {v : AV} {Z : (β → Res) → Res} {K : (β → Res) → Id → Nat → Nat → Res} (hz : Lin Z) (h : ∀ b o n, Lin fun k => K k b o n) : Lin fun k => asSl v (Z k) (K k) := by cases v <;> first | exact h _ _ _ | exact hz | exact .inl ⟨_, _, fun _ => rfl⟩
theorem lin_asG {v : AV} {K : (β → Res) → List AV → Res} (h : ∀ l, Lin fun k => K k l) : Lin fun k => asG v (K k) := by cases v <;> first | exact h _ | exact .inl ⟨_, _, fun _ => rfl⟩
theorem lin_asT {v : AV} {K : (β → Res) → List AV → Res} (h : ∀ l, Lin fun k => K k l) : Lin fun k => asT v (K k) := by cases v <;> first | exact h _ | exact .inl ⟨_, _, fun _ => rfl⟩
theorem lin_intE {v : AV} {Z : (β → Res) → Res} {K : (β → Res) → IntKind → Int → Res} (hz : Lin Z) (h : ∀ kd n, Lin fun k => K k kd n) : Lin fun k => intE v (K k) (Z k) := by cases v <;> first | exact h _ _ | exact hz
theorem lin_strE {v : AV} {Z : (β → Res) → Res} {K : (β → Res) → Nat → Nat → Res} (hz : Lin Z) (h : ∀ n c, Lin fun k => K k n c) : Lin fun k => strE v (K k) (Z k) := by cases v <;> first | exact h _ _ | exact hz
theorem lin_asII {x y : AV} {K : (β → Res) → IntKind → Int → Int → Res} (h : ∀ kd a b, Lin fun k => K k kd a b) : Lin fun k => asII x y (K k) :=
  lin_asI fun k1 a => lin_asI fun k2 b => lin_cif (h k1 a b) (lin_bad' _)
theorem lin_cellsAt {b : Id} {h : Hp} {K : (β → Res) → Bool → TypeId → Nat → CT → Res} (hk : ∀ own e n t, Lin fun k => K k own e n t) : Lin fun k => cellsAt b h (K k) := by
  unfold cellsAt
  cases hat b h.t <;> first | exact hk _ _ _ _ | exact .inl ⟨_, _, fun _ => rfl⟩
theorem lin_inI {v : AV} {n : Nat} {K : (β → Res) → Nat → Res} (h : ∀ n, Lin fun k => K k n) : Lin fun k => inI v n (K k) :=
  lin_asI fun kd i => by
    cases i with
    | ofNat i => exact lin_cif (lin_bad' _) (h i)
    | negSucc i => exact lin_bad' _
theorem lin_gL {l : List AV} {z : (β → Res) → Res} {K : (β → Res) → AV → Res} (hz : Lin z) (h : ∀ v, Lin fun k => K k v) : ∀ n, Lin fun k => gL l n (K k) (z k) := by
  induction l with
  | nil => intro n; exact hz
  | cons a l ih =>
    intro n
    cases n with
    | zero => exact h a
    | succ n => exact ih n
theorem lin_partL {ag : Bool} {sz : Nat} {l : List AV} {off : Nat} {K : (β → Res) → AV → Res} (h : ∀ v, Lin fun k => K k v) : Lin fun k => partL ag sz l off (K k) := by
  unfold partL
  exact lin_cif (h _) (lin_gL (lin_bad' _) h off)
theorem lin_obF {ob : Option Bool} {K : (β → Res) → Bool → Res} (h : ∀ b, Lin fun k => K k b) : Lin fun k => obF ob (K k) := by
  cases ob with
  | none => exact lin_bad' _
  | some b => cases b <;> exact h _
theorem lin_obX {x y : AV} {ob : Option Bool} {K : (β → Res) → Bool → Res} (h : ∀ b, Lin fun k => K k b) : Lin fun k => obX x y ob (K k) := by
  cases ob with
  | none => exact lin_bad _ _
  | some b => exact h _
theorem lin_obX0 {x y : AV} {ob : Option Bool} {K : (β → Res) → Bool → Res} (h : ∀ b, Lin fun k => K k b) : Lin fun k => obX0 x y ob (K k) := by
  cases ob with
  | none => exact lin_bad _ _
  | some b => exact h _
theorem lin_obX1 {x y : AV} {ob : Option Bool} {K : (β → Res) → Bool → Res} (h : ∀ b, Lin fun k => K k b) : Lin fun k => obX1 x y ob (K k) := by
  cases ob with
  | none => exact lin_bad _ _
  | some b => exact h _
theorem lin_hiB {hi : Option O} {F : Fr} {d n : Nat} {K : (β → Res) → Nat → Res} (h : ∀ n, Lin fun k => K k n) : Lin fun k => hiB hi F d n (K k) := by
  cases hi with
  | none => exact h _
  | some x => exact lin_inI h
theorem lin_loB {lo : Option O} {F : Fr} {n : Nat} {K : (β → Res) → Nat → Res} (h : ∀ n, Lin fun k => K k n) : Lin fun k => loB lo F n (K k) := by
  cases lo with
  | none => exact h _
  | some x => exact lin_inI h
theorem lin_fillAll {F : Fr} {ps : List Pt} {K : (β → Res) → List AV → Res} (h : ∀ l, Lin fun k => K k l) : ∀ l, Lin fun k => fillAll F ps l (K k) := by
  induction ps with
  | nil => exact h
  | cons p ps ih =>
    intro l
    obtain ⟨off, sz, x⟩ := p
    show Lin fun k => natF (lenL (cellsOf (x F))) fun n => cif (an (nU (x F)) (an (Nat.beq n sz) (Nat.ble (Nat.add off n) (lenL l)))) (fillAll F ps (fillL (cellsOf (x F)) off l) (K k)) (bad 17)
    exact lin_natF fun n => lin_cif (ih _) (lin_bad' _)
theorem lin_find {q : AV → AV → Option Bool} {key : AV} {es : List (AV × AV)} {K : (β → Res) → Option AV → Res} (h : ∀ v, Lin fun k => K k v) : Lin fun k => find q key es (K k) := by
  induction es with
  | nil => exact h none
  | cons e es ih =>
    obtain ⟨a, v⟩ := e
    exact lin_obF fun b => lin_cif (h _) ih
theorem lin_codeOf {l : List AV} : ∀ {K : (β → Res) → Nat → Res}, (∀ n, Lin fun k => K k n) → Lin fun k => codeOf l (K k) := by
  induction l with
  | nil => exact fun h => h 0
  | cons a l ih =>
    intro K h
    exact lin_asI fun kd n => by
      cases n with
      | ofNat n => exact lin_cif (ih fun c => lin_natF h) (lin_bad' _)
      | negSucc n => exact lin_bad' _
theorem lin_posF {p x y : Nat} {K : (β → Res) → AV → Res} (h : ∀ v, Lin fun k => K k v) : Lin fun k => posF p x y (K k) :=
  lin_cif (lin_natF fun p => h _) (lin_cif (lin_natF fun q => h _) (lin_bad' _))
theorem lin_match {α : Type} {v : α} {G : α → (β → Res) → Res} (h : ∀ v, Lin (G v)) : Lin (G v) := h v
end
/-- It hangs on the frame alone. -/
def PureX (x : X) : Prop := ∀ F, ∃ G, Lin G ∧ ∀ cl h k, x cl F h k = G fun v => k v h
/-- It hangs on the frame and the heap, which stays. -/
def ReadX (x : X) : Prop := ∀ F h, ∃ G, Lin G ∧ ∀ cl k, x cl F h k = G fun v => k v h
theorem PureX.read {x : X} (h : PureX x) : ReadX x := fun F hp => let ⟨G, h1, h2⟩ := h F; ⟨G, h1, fun cl k => h2 cl hp k⟩
theorem p_bad (n : Nat) : PureX (xBad n) := fun F => ⟨fun _ => bad n, lin_bad' n, fun _ _ _ => rfl⟩
section
variable {x y c : O}
theorem p_mv : PureX (xMv x) := fun F => ⟨fun k => k (x F), lin_k _, fun _ _ _ => rfl⟩
theorem p_i2 (f : Int → Int → Int) : PureX (xI2 f x y) := fun F => ⟨fun k => asII (x F) (y F) fun kd a b => wrF kd (lim kd) (f a b) fun v => k v, lin_asII fun _ _ _ => lin_wrF fun _ => lin_k _, fun _ _ _ => rfl⟩
theorem p_ie (neg : Bool) : PureX (xIe neg x y) := fun F => ⟨fun k => intE (x F) (fun k1 a => asI (y F) fun k2 b => cif (Nat.beq (kn k1) (kn k2)) (bF (cif neg (nt (ieq a b)) (ieq a b)) fun v => k v) (bad 6))
    (match x F, y F with
      | .y a, .y b => cif (an (Nat.beq a b) (nt (yOdd a))) (bF (nt neg) fun v => k v) (.bad 160 (.t [.y a, .y b]))
      | v, w => .bad 161 (.t [v, w])), lin_intE (by split <;> first | exact lin_cif (lin_bF fun _ => lin_k _) (lin_bad _ _) | exact lin_bad _ _) fun _ _ => lin_asI fun _ _ => lin_cif (lin_bF fun _ => lin_k _) (lin_bad' _), fun _ _ _ => rfl⟩
theorem p_cmp (sw neg : Bool) : PureX (xCmp sw neg x y) := fun F => ⟨fun k => intE (x F) (fun k1 a => intE (y F) (fun k2 b => cif (Nat.beq (kn k1) (kn k2)) (bF (cif neg (nt (cif sw (ile b a) (ile a b))) (cif sw (ile b a) (ile a b))) fun v => k v) (bad 6))
      (obX1 (x F) (y F) (cif sw (leO (y F) (x F)) (leO (x F) (y F))) fun b => bF (cif neg (nt b) b) fun v => k v)) (obX1 (x F) (y F) (cif sw (leO (y F) (x F)) (leO (x F) (y F))) fun b => bF (cif neg (nt b) b) fun v => k v),
    lin_intE (lin_obX1 fun _ => lin_bF fun _ => lin_k _) fun _ _ => lin_intE (lin_obX1 fun _ => lin_bF fun _ => lin_k _) fun _ _ => lin_cif (lin_bF fun _ => lin_k _) (lin_bad' _), fun _ _ _ => rfl⟩
theorem p_div : PureX (xDiv x y) := fun F => ⟨fun k => asII (x F) (y F) fun kd a b => cif (ieq b 0) (bad 2) (wrF kd (lim kd) (Int.tdiv a b) fun v => k v), lin_asII fun _ _ _ => lin_cif (lin_bad' _) (lin_wrF fun _ => lin_k _), fun _ _ _ => rfl⟩
theorem p_rem : PureX (xRem x y) := fun F => ⟨fun k => asII (x F) (y F) fun kd a b => cif (ieq b 0) (bad 2) (intF (Int.tmod a b) fun n => k (.i kd n)), lin_asII fun _ _ _ => lin_cif (lin_bad' _) (lin_intF fun _ => lin_k _), fun _ _ _ => rfl⟩
theorem p_nn (f : Nat → Nat → Nat) : PureX (xNN f x y) := fun F => ⟨fun k => asII (x F) (y F) fun kd a b =>
  int2 (fun a b => cif (Nat.ble (lim kd) a) (bad 3) (cif (Nat.ble (lim kd) b) (bad 3) (natF (f a b) fun n => k (.i kd (.ofNat n))))) (fun _ _ => bad 3) (fun _ _ => bad 3) (fun _ _ => bad 3) a b,
  lin_asII fun _ a b => by cases a <;> cases b <;> first | exact lin_bad' _ | exact lin_cif (lin_bad' _) (lin_cif (lin_bad' _) (lin_natF fun _ => lin_k _)), fun _ _ _ => rfl⟩
theorem p_shl : PureX (xShl x y) := fun F => ⟨fun k => asI (x F) fun kd a => asI (y F) fun _ b =>
  int2 (fun m b => cif (Nat.ble b kd.bits) (wrF kd (lim kd) (.ofNat (Nat.mul m (Nat.pow 2 b))) fun v => k v) (bad 3)) (fun _ _ => bad 3) (fun _ _ => bad 3) (fun _ _ => bad 3) a b,
  lin_asI fun _ a => lin_asI fun _ b => by cases a <;> cases b <;> first | exact lin_bad' _ | exact lin_cif (lin_wrF fun _ => lin_k _) (lin_bad' _), fun _ _ _ => rfl⟩
theorem p_shr : PureX (xShr x y) := fun F => ⟨fun k => asI (x F) fun kd a => asI (y F) fun _ b =>
  int2 (fun m b => cif (Nat.ble b kd.bits) (natF (Nat.div m (Nat.pow 2 b)) fun n => k (.i kd (.ofNat n))) (bad 3)) (fun _ _ => bad 3) (fun _ _ => bad 3) (fun _ _ => bad 3) a b,
  lin_asI fun _ a => lin_asI fun _ b => by cases a <;> cases b <;> first | exact lin_bad' _ | exact lin_cif (lin_natF fun _ => lin_k _) (lin_bad' _), fun _ _ _ => rfl⟩
theorem p_cat : PureX (xCat x y) := fun F => ⟨fun k => asS (x F) fun n c => asS (y F) fun m d => cif (Nat.ble 1000000000 (Nat.add n m)) (bad 7) <| sF (Nat.add n m) (Nat.add c (Nat.mul d (Nat.pow 2 (Nat.mul 8 n)))) fun v => k v,
  lin_asS fun _ _ => lin_asS fun _ _ => lin_cif (lin_bad' _) (lin_sF fun _ => lin_k _), fun _ _ _ => rfl⟩
theorem p_seq (neg : Bool) : PureX (xSeq neg x y) := fun F => ⟨fun k => strE (x F) (fun n c => strE (y F) (fun m d => bF (cif neg (nt (an (Nat.beq n m) (Nat.beq c d))) (an (Nat.beq n m) (Nat.beq c d))) fun v => k v) (obX0 (x F) (y F) (eqY (x F) (y F)) fun b => bF (cif neg (nt b) b) fun v => k v)) (obX0 (x F) (y F) (eqY (x F) (y F)) fun b => bF (cif neg (nt b) b) fun v => k v),
  lin_strE (lin_obX0 fun _ => lin_bF fun _ => lin_k _) fun _ _ => lin_strE (lin_obX0 fun _ => lin_bF fun _ => lin_k _) fun _ _ => lin_bF fun _ => lin_k _, fun _ _ _ => rfl⟩
theorem p_keq (q : AV → AV → Option Bool) (neg : Bool) : PureX (xKeq q neg x y) := fun F => ⟨fun k => obX (x F) (y F) (q (x F) (y F)) fun b => bF (cif neg (nt b) b) fun v => k v, lin_obX fun _ => lin_bF fun _ => lin_k _, fun _ _ _ => rfl⟩
theorem p_nl (kd : Nat) (neg : Bool) : PureX (xNl kd neg x) := fun F => ⟨fun k => obX (x F) .u (nilO kd (x F)) fun b => bF (cif neg (nt b) b) fun v => k v, lin_obX fun _ => lin_bF fun _ => lin_k _, fun _ _ _ => rfl⟩
theorem p_pick : PureX (xPick c x y) := fun F => ⟨fun k => asB (c F) fun b => cif b (k (x F)) (k (y F)), lin_asB fun _ => lin_cif (lin_k _) (lin_k _), fun _ _ _ => rfl⟩
theorem p_nil : PureX (xNil x) := fun F => ⟨fun k => asP (x F) fun b o => k (.p b o), lin_asP fun _ _ => lin_k _, fun _ _ _ => rfl⟩
theorem p_not : PureX (xNot x) := fun F => ⟨fun k => asB (x F) fun b => bF (nt b) fun v => k v, lin_asB fun _ => lin_bF fun _ => lin_k _, fun _ _ _ => rfl⟩
theorem p_neg : PureX (xNeg x) := fun F => ⟨fun k => asI (x F) fun kd n => natF (lim kd) fun lm => wrF kd lm (Int.sub 0 n) fun v => k v, by simp only [natF_eq]; exact lin_asI fun _ _ => lin_wrF fun _ => lin_k _, fun _ _ _ => rfl⟩
theorem p_cvI (kd : IntKind) : PureX (xCvI kd (lim kd) x) := fun F => ⟨fun k => asI (x F) fun _ n => wrF kd (lim kd) n fun v => k v, lin_asI fun _ _ => lin_wrF fun _ => lin_k _, fun _ _ _ => rfl⟩
theorem p_cvS : PureX (xCvS x) := fun F => ⟨fun k => strE (x F) (fun n c => k (.s n c)) (match x F with
  | .y y => cif (yOdd y) (k (.y y)) (bad 103)
  | _ => bad 103), lin_strE (by split <;> first | exact lin_cif (lin_k _) (lin_bad' _) | exact lin_bad' _) fun _ _ => lin_k _, fun _ _ _ => rfl⟩
theorem p_fa (off : Nat) : PureX (xFa off x) := fun F => ⟨fun k => asP (x F) fun b o => natF (Nat.add o off) fun o => k (.p b o), lin_asP fun _ _ => lin_natF fun _ => lin_k _, fun _ _ _ => rfl⟩
theorem p_fd (ag : Bool) (sz off : Nat) : PureX (xFd ag sz off x) := fun F => ⟨fun k => asG (x F) fun l => partL ag sz l off fun v => k v, lin_asG fun _ => lin_partL fun _ => lin_k _, fun _ _ _ => rfl⟩
theorem p_iaS (sz : Nat) : PureX (xIaS sz x y) := fun F => ⟨fun k => asSl (x F) (bad 18) fun b o n => inI (y F) n fun i => natF (Nat.add o (Nat.mul i sz)) fun o => k (.p b o), lin_asSl (lin_bad' _) fun _ _ _ => lin_inI fun _ => lin_natF fun _ => lin_k _, fun _ _ _ => rfl⟩
theorem p_iaA (len sz : Nat) : PureX (xIaA len sz x y) := fun F => ⟨fun k => asP (x F) fun b o => inI (y F) len fun i => natF (Nat.add o (Nat.mul i sz)) fun o => k (.p b o), lin_asP fun _ _ => lin_inI fun _ => lin_natF fun _ => lin_k _, fun _ _ _ => rfl⟩
theorem p_ixS : PureX (xIxS x y) := fun F => ⟨fun k => asS (x F) fun n c => inI (y F) n fun i => natF (sByte c i) fun m => k (.i .u8 (.ofNat m)), lin_asS fun _ _ => lin_inI fun _ => lin_natF fun _ => lin_k _, fun _ _ _ => rfl⟩
theorem p_ixA (len : Nat) (ag : Bool) (sz : Nat) : PureX (xIxA len ag sz x y) := fun F => ⟨fun k => asG (x F) fun l => inI (y F) len fun i => partL ag sz l (Nat.mul i sz) fun v => k v, lin_asG fun _ => lin_inI fun _ => lin_partL fun _ => lin_k _, fun _ _ _ => rfl⟩
theorem p_bld (z : List AV) (ps : List Pt) : PureX (xBld z ps) := fun F => ⟨fun k => fillAll F ps z fun l => k (.g l), lin_fillAll (fun _ => lin_k _) z, fun _ _ _ => rfl⟩
theorem p_mkF (fn : Fn) (a b : List O) : PureX (xMkF fn a b) := fun F => ⟨fun k => k (.f fn (mapO a F) (mapO b F)), lin_k _, fun _ _ _ => rfl⟩
theorem p_mkI (t : TypeId) : PureX (xMkI t x) := fun F => ⟨fun k => k (.if_ t (x F)), lin_k _, fun _ _ _ => rfl⟩
theorem p_ext (i : Nat) : PureX (xExt x i) := fun F => ⟨fun k => asT (x F) fun l => gL l i (fun v => k v) (bad 30), lin_asT fun _ => lin_gL (lin_bad' _) (fun _ => lin_k _) i, fun _ _ _ => rfl⟩
theorem p_mm (f : Int → Int → Int) : PureX (xMM f x y) := fun F => ⟨fun k => asII (x F) (y F) fun kd a b => intF (f a b) fun n => k (.i kd n), lin_asII fun _ _ _ => lin_intF fun _ => lin_k _, fun _ _ _ => rfl⟩
theorem p_ta (t : TypeId) (ok : Bool) (z : AV) : PureX (xTa t ok z x) := fun F => by
  refine ⟨fun k => match x F, ok with
  | .if_ t' v, true => cif (Nat.beq t' t) (k (.t [v, .b true])) (k (.t [z, .b false]))
  | .if_ t' v, false => cif (Nat.beq t' t) (k v) (bad 38)
  | .if0, true => k (.t [z, .b false])
  | v, _ => .bad 38 v, ?_, fun cl h k => ?_⟩
  · split <;> first | exact lin_cif (lin_k _) (lin_k _) | exact lin_cif (lin_k _) (lin_bad' _) | exact lin_k _ | exact lin_bad _ _
  · unfold xTa; cases x F <;> cases ok <;> rfl
theorem p_slS (lo hi : Option O) : PureX (xSlS x lo hi) := fun F => ⟨fun k => asS (x F) fun n c => hiB hi F n n fun hi => loB lo F hi fun lo => sF (Nat.sub hi lo) (sSub c lo hi) fun v => k v, lin_asS fun _ _ => lin_hiB fun _ => lin_loB fun _ => lin_sF fun _ => lin_k _, fun _ _ _ => rfl⟩
theorem p_lenS : PureX (xLenS x) := fun F => ⟨fun k => strE (x F) (fun n _ => k (.i .i64 (.ofNat n))) (match x F with
  | .y y => cif (yOdd y) (natF (yLen y) fun n => natF (yCod y) fun c => natF (cntF 1 n c) fun p => natF (cntF 2 n c) fun q => posF (Nat.sub n (Nat.add p q)) p q fun v => k v) (bad 103)
  | _ => bad 103), lin_strE (by split <;> first | exact lin_cif (lin_natF fun _ => lin_natF fun _ => lin_natF fun _ => lin_natF fun _ => lin_posF fun _ => lin_k _) (lin_bad' _) | exact lin_bad' _) fun _ _ => lin_k _, fun _ _ _ => rfl⟩
theorem p_lenL : PureX (xLenL x) := fun F => ⟨fun k => asSl (x F) (k (.i .i64 (.ofNat 0))) fun _ _ n => k (.i .i64 (.ofNat n)), lin_asSl (lin_k _) fun _ _ _ => lin_k _, fun _ _ _ => rfl⟩
theorem p_lenA (n : Nat) : PureX (xLenA n) := fun F => ⟨fun k => k (.i .i64 (.ofNat n)), lin_k _, fun _ _ _ => rfl⟩
/-! what reads -/
theorem r_lenM : ReadX (xLenM x) := fun F h => ⟨fun k => match x F with
  | .m0 => k (.i .i64 (.ofNat 0))
  | .m b => match hat b h.t with
    | .m es _ => natF es.length fun n => k (.i .i64 (.ofNat n))
    | _ => bad 31
  | v => .bad 31 v, by
    split
    · exact lin_k _
    · split
      · exact lin_natF fun _ => lin_k _
      · exact lin_bad' _
    · exact lin_bad _ _, fun _ _ => rfl⟩
theorem r_ld1 : ReadX (xLd1 x) := fun F h => ⟨fun k => asP (x F) fun b o => cellsAt b h fun _ _ n t => cif (Nat.ble n o) (bad 12) (k (t.get o)), lin_asP fun _ _ => lin_cellsAt fun _ _ _ _ => lin_cif (lin_bad' _) (lin_k _), fun _ _ => rfl⟩
theorem r_ldN (m : Nat) : ReadX (xLdN m x) := fun F h => ⟨fun k => asP (x F) fun b o => cellsAt b h fun _ _ n t => cif (Nat.ble (Nat.add o m) n) (k (.g (t.cells m o))) (bad 12), lin_asP fun _ _ => lin_cellsAt fun _ _ _ _ => lin_cif (lin_k _) (lin_bad' _), fun _ _ => rfl⟩
theorem r_slL (e sz : Nat) (lo hi : Option O) : ReadX (xSlL e sz x lo hi) := fun F h => ⟨fun k => asSl (x F) (hiB hi F 0 0 fun hi => loB lo F hi fun _ => k .sl0)
    fun b o n => cellsAt b h fun _ e1 m _ => cif (Nat.beq e e1) (hiB hi F n (Nat.div (Nat.sub m o) sz) fun hi => loB lo F hi fun lo =>
      natF (Nat.add o (Nat.mul lo sz)) fun o => natF (Nat.sub hi lo) fun n => k (.sl b o n)) (bad 53),
  lin_asSl (lin_hiB fun _ => lin_loB fun _ => lin_k _) fun _ _ _ => lin_cellsAt fun _ _ _ _ => lin_cif (lin_hiB fun _ => lin_loB fun _ => lin_natF fun _ => lin_natF fun _ => lin_k _) (lin_bad' _), fun _ _ => rfl⟩
theorem r_cvBS : ReadX (xCvBS x) := fun F h => ⟨fun k => asSl (x F) (k (.s 0 0)) fun b o n => cellsAt b h fun _ _ m t => cif (Nat.ble (Nat.add o n) m) (codeOf (t.cells n o) fun c => k (.s n c)) (bad 28),
  lin_asSl (lin_k _) fun _ _ _ => lin_cellsAt fun _ _ _ _ => lin_cif (lin_codeOf fun _ => lin_k _) (lin_bad' _), fun _ _ => rfl⟩
noncomputable def lkR (z : AV) (ok : Bool) (k : AV → Res) (r : Option AV) : Res := match r, ok with
  | some v, true => k (.t [v, .b true])
  | some v, false => k v
  | none, true => k (.t [z, .b false])
  | none, false => k z
theorem lkR_h (z : AV) (ok : Bool) (k : K) (h : Hp) : (lkR z ok fun v => k v h) = lkK z ok h k := by funext r; cases r <;> cases ok <;> rfl
theorem r_lk (q : AV → AV → Option Bool) (fl : Bool) (z : AV) (ok : Bool) : ReadX (xSelf q fl y (xLk q z ok x y)) := fun F h => by
  have fin : ∀ es, Lin fun k => find q (y F) es (lkR z ok k) := fun es => lin_find fun r => by cases r <;> cases ok <;> exact lin_k _
  have key : Lin fun k => esOf (x F) h fun es _ => find q (y F) es (lkR z ok k) := by
    cases hx : x F <;> first
      | exact fin []
      | (simp only [esOf]; split <;> first | exact fin _ | exact lin_bad' _)
      | exact .inl ⟨_, _, fun _ => rfl⟩
  refine ⟨fun k => cif fl (obF (q (y F) (y F)) fun b => cif b (esOf (x F) h fun es _ => find q (y F) es (lkR z ok k)) (bad 90)) (esOf (x F) h fun es _ => find q (y F) es (lkR z ok k)), lin_cif (lin_obF fun _ => lin_cif key (lin_bad' _)) key, fun cl k => ?_⟩
  simp only [lkR_h]
  rfl
theorem lin_ptrE {v : AV} {k : (AV → Res) → Id → Nat → Res} {n : (AV → Res) → Res} {m : Nat} (hk : ∀ b o, Lin fun f => k f b o) (hn : Lin n) : Lin fun f => ptrE v (k f) (n f) (bad m) := by
  cases v <;> first | exact hk _ _ | exact hn | exact lin_bad' _
theorem r_pq (nb : TypeId → Bool) (neg : Bool) : ReadX (xPq nb neg x y) := fun F h => ⟨fun k => ptrE (x F) (fun b o => ptrE (y F) (fun c q => cif (deqI b c) (bF (cif neg (nt (Nat.beq o q)) (Nat.beq o q)) fun v => k v)
      (cellsAt b h fun own e n _ => cellsAt c h fun own2 _ n2 _ => cif (an own (an own2 (an (Nat.ble o n) (an (Nat.ble 1 n2) (nb e))))) (bF neg fun v => k v) (bad 158)))
      (bF neg fun v => k v) (bad 158))
    (ptrE (y F) (fun _ _ => bF neg fun v => k v) (bF (nt neg) fun v => k v) (bad 158)) (bad 158),
  lin_ptrE (fun _ _ => lin_ptrE (fun _ _ => lin_cif (lin_bF fun _ => lin_k _) (lin_cellsAt fun _ _ _ _ => lin_cellsAt fun _ _ _ _ => lin_cif (lin_bF fun _ => lin_k _) (lin_bad' _))) (lin_bF fun _ => lin_k _)) (lin_ptrE (fun _ _ => lin_bF fun _ => lin_k _) (lin_bF fun _ => lin_k _)), fun _ _ => rfl⟩
end
end Go.Ev
namespace Go.Ev
open Go Go.RowKit
section
variable {P : Program}
/-- It looks at its operands alone. -/
def Dep (x : X) (L : List Operand) : Prop := ∀ cl F F' h k, (∀ u ∈ L, opA u F = opA u F') → x cl F h k = x cl F' h k
theorem opA_dep {u : Operand} {F F' : Fr} (h : ∀ t ∈ tmpsO u, getN t F = getN t F') : opA u F = opA u F' := by
  cases u <;> first | rfl | exact h _ (by simp [tmpsO])
def Fact (P : Program) (op : Op) (x : X) : Prop := Dep x op.operands.toList ∧ (kdOp P op = .pure → PureX x) ∧ (kdOp P op = .read → ReadX x)
theorem f_bad (op : Op) (n : Nat) : Fact P op (xBad n) := ⟨fun _ _ _ _ _ _ => rfl, fun _ => p_bad n, fun _ => (p_bad n).read⟩
theorem f_p {op : Op} {x : X} (d : Dep x op.operands.toList) (p : PureX x) : Fact P op x := ⟨d, fun _ => p, fun _ => p.read⟩
theorem f_r {op : Op} {x : X} (h : kdOp P op ≠ .pure) (d : Dep x op.operands.toList) (p : ReadX x) : Fact P op x := ⟨d, fun e => absurd e h, fun _ => p⟩
theorem f_e {op : Op} {x : X} (h : kdOp P op ≠ .pure) (h2 : kdOp P op ≠ .read) (d : Dep x op.operands.toList) : Fact P op x := ⟨d, fun e => absurd e h, fun e => absurd e h2⟩
theorem mapO_dep {F F' : Fr} : ∀ {l : List Operand}, (∀ u ∈ l, opA u F = opA u F') → mapO (l.map opA) F = mapO (l.map opA) F'
  | [], _ => rfl
  | u :: l, h => by
    show opA u F :: mapO (l.map opA) F = opA u F' :: mapO (l.map opA) F'
    rw [h u (by simp), mapO_dep fun v hv => h v (by simp [hv])]
theorem fillAll_dep {F F' : Fr} : ∀ {ps : List Pt}, (∀ p ∈ ps, p.o F = p.o F') → ∀ l k, fillAll F ps l k = fillAll F' ps l k
  | [], _, _, _ => rfl
  | p :: ps, h, l, k => by
    obtain ⟨off, sz, x⟩ := p
    have hx : x F = x F' := h _ List.mem_cons_self
    show natF (lenL (cellsOf (x F))) (fun n => cif (an (nU (x F)) (an (Nat.beq n sz) (Nat.ble (Nat.add off n) (lenL l)))) (fillAll F ps (fillL (cellsOf (x F)) off l) k) (bad 17)) =
      natF (lenL (cellsOf (x F'))) (fun n => cif (an (nU (x F')) (an (Nat.beq n sz) (Nat.ble (Nat.add off n) (lenL l)))) (fillAll F' ps (fillL (cellsOf (x F')) off l) k) (bad 17))
    rw [hx, fillAll_dep fun q hq => h q (List.mem_cons_of_mem _ hq)]
theorem parts_dep {F F' : Fr} {ps : Array (Nat × Operand)} (h : ∀ u ∈ (ps.toList.map (·.2)).toArray.toList, opA u F = opA u F') (place : Nat → Option (Nat × Nat)) :
    ∀ p ∈ ps.toList.map (fun p => match place p.1 with
      | some (i, sz) => (⟨i, sz, opA p.2⟩ : Pt)
      | none => ⟨0, 1000000, opA p.2⟩), p.o F = p.o F' := by
  intro p hp
  obtain ⟨q, hq, rfl⟩ := List.mem_map.1 hp
  have := h q.2 (by simpa using ⟨q.1, by simpa using hq⟩)
  cases place q.1 <;> exact this
theorem hiB_dep {F F' : Fr} {hi : Option Operand} (h : ∀ u, hi = some u → opA u F = opA u F') (d n : Nat) (k : Nat → Res) : hiB (hi.map opA) F d n k = hiB (hi.map opA) F' d n k := by
  cases hi with
  | none => rfl
  | some u => show inI (opA u F) _ _ = inI (opA u F') _ _; rw [h u rfl]
theorem loB_dep {F F' : Fr} {lo : Option Operand} (h : ∀ u, lo = some u → opA u F = opA u F') (n : Nat) (k : Nat → Res) : loB (lo.map opA) F n k = loB (lo.map opA) F' n k := by
  cases lo with
  | none => rfl
  | some u => show inI (opA u F) _ _ = inI (opA u F') _ _; rw [h u rfl]
section
variable {u y c : Operand} {L : List Operand}
theorem d1 {f : O → X} (h : ∀ (x y : O) cl F F' hh k, x F = y F' → f x cl F hh k = f y cl F' hh k) (hu : u ∈ L) : Dep (f (opA u)) L := fun cl F F' hh k ag => h _ _ cl F F' hh k (ag u hu)
theorem d2 {f : O → O → X} (h : ∀ (x x' y y' : O) cl F F' hh k, x F = x' F' → y F = y' F' → f x y cl F hh k = f x' y' cl F' hh k) (hu : u ∈ L) (hy : y ∈ L) : Dep (f (opA u) (opA y)) L := fun cl F F' hh k ag => h _ _ _ _ cl F F' hh k (ag u hu) (ag y hy)
end
theorem facts_bin (op : BinOp) (t t2 : TypeId) (x y : Operand) : Fact P (.binOp op t x y t2) (trX P (.binOp op t x y t2) fun x => x) := by
  have hx : x ∈ (Op.binOp op t x y t2).operands.toList := by simp [Op.operands]
  have hy : y ∈ (Op.binOp op t x y t2).operands.toList := by simp [Op.operands]
  have e1 : (trX P (.binOp op t x y t2) fun x => x) = binX P op t (opA x) (opA y) (isNilC y) fun x => x := by simp only [trX, opF_eq]
  rw [e1]
  have two : ∀ {f : O → O → X}, (∀ (x x' y y' : O) cl F F' hh k, x F = x' F' → y F = y' F' → f x y cl F hh k = f x' y' cl F' hh k) → PureX (f (opA x) (opA y)) → Fact P (.binOp op t x y t2) (f (opA x) (opA y)) := fun h p => f_p (d2 h hx hy) p
  have keq : ∀ q neg, Fact P (.binOp op t x y t2) (xKeq q neg (opA x) (opA y)) := fun q neg => two (f := xKeq q neg) (by intro x x' y y' cl F F' hh k e1 e2; simp only [xKeq, e1, e2]) (p_keq q neg)
  have nl : ∀ kd neg, Fact P (.binOp op t x y t2) (xNl kd neg (opA x)) := fun kd neg => f_p (d1 (f := xNl kd neg) (by intro x x' cl F F' hh k e1; simp only [xNl, e1]) hx) (p_nl kd neg)
  have cif_f : ∀ {b : Bool} {x1 x2 : X}, Fact P (.binOp op t x y t2) x1 → Fact P (.binOp op t x y t2) x2 → Fact P (.binOp op t x y t2) (cif b x1 x2) := fun {b x1 x2} h1 h2 => by cases b <;> assumption
  have struct : ∀ neg, Fact P (.binOp op t x y t2) (keyF P t (xBad 66) fun q _ => xKeq q neg (opA x) (opA y)) := fun neg => by
    rw [keyF_eq]
    cases Ev.keyOf P t with
    | none => exact f_bad _ _
    | some qf => exact keq _ neg
  unfold binX
  cases hpt : P.underlying t with
  | none => cases op <;> exact f_bad _ _
  | some d =>
    cases d with
    | int kd =>
      cases op <;> first
        | exact f_bad _ _
        | exact two (f := xI2 iadd) (by intro x x' y y' cl F F' hh k e1 e2; simp only [xI2, e1, e2]) (p_i2 _)
        | exact two (f := xI2 isub) (by intro x x' y y' cl F F' hh k e1 e2; simp only [xI2, e1, e2]) (p_i2 _)
        | exact two (f := xI2 Int.mul) (by intro x x' y y' cl F F' hh k e1 e2; simp only [xI2, e1, e2]) (p_i2 _)
        | exact two (f := xDiv) (by intro x x' y y' cl F F' hh k e1 e2; simp only [xDiv, e1, e2]) p_div
        | exact two (f := xRem) (by intro x x' y y' cl F F' hh k e1 e2; simp only [xRem, e1, e2]) p_rem
        | exact two (f := xIe false) (by intro x x' y y' cl F F' hh k e1 e2; simp only [xIe, e1, e2]) (p_ie _)
        | exact two (f := xIe true) (by intro x x' y y' cl F F' hh k e1 e2; simp only [xIe, e1, e2]) (p_ie _)
        | exact two (f := xCmp true true) (by intro x x' y y' cl F F' hh k e1 e2; simp only [xCmp, e1, e2]) (p_cmp _ _)
        | exact two (f := xCmp false false) (by intro x x' y y' cl F F' hh k e1 e2; simp only [xCmp, e1, e2]) (p_cmp _ _)
        | exact two (f := xCmp false true) (by intro x x' y y' cl F F' hh k e1 e2; simp only [xCmp, e1, e2]) (p_cmp _ _)
        | exact two (f := xCmp true false) (by intro x x' y y' cl F F' hh k e1 e2; simp only [xCmp, e1, e2]) (p_cmp _ _)
        | exact two (f := xNN Nat.land) (by intro x x' y y' cl F F' hh k e1 e2; simp only [xNN, e1, e2]) (p_nn _)
        | exact two (f := xNN Nat.lor) (by intro x x' y y' cl F F' hh k e1 e2; simp only [xNN, e1, e2]) (p_nn _)
        | exact two (f := xShl) (by intro x x' y y' cl F F' hh k e1 e2; simp only [xShl, e1, e2]) p_shl
        | exact two (f := xShr) (by intro x x' y y' cl F F' hh k e1 e2; simp only [xShr, e1, e2]) p_shr
    | string =>
      cases op <;> first
        | exact f_bad _ _
        | exact two (f := xCat) (by intro x x' y y' cl F F' hh k e1 e2; simp only [xCat, e1, e2]) p_cat
        | exact two (f := xSeq false) (by intro x x' y y' cl F F' hh k e1 e2; simp only [xSeq, e1, e2]) (p_seq _)
        | exact two (f := xSeq true) (by intro x x' y y' cl F F' hh k e1 e2; simp only [xSeq, e1, e2]) (p_seq _)
    | bool => cases op <;> first | exact f_bad _ _ | exact keq eqKb _
    | struct fs => cases op <;> first | exact f_bad _ _ | exact cif_f (struct _) (f_bad _ _)
    | slice e => cases op <;> first | exact f_bad _ _ | exact cif_f (nl 0 _) (f_bad _ _)
    | pointer e =>
      have pq : ∀ neg, Fact P (.binOp op t x y t2) (cif (Nat.beq (isNilC y) 1) (xNl 1 neg (opA x)) (szF P e (xBad 66) fun n => cif (Nat.beq n 0) (xBad 66) (xPq (noByte P) neg (opA x) (opA y)))) := fun neg => by
        cases hh : Nat.beq (isNilC y) 1 with
        | true => exact nl 1 neg
        | false =>
          have hk : kdOp P (.binOp op t x y t2) ≠ .pure := by simp [kdOp, hpt, hh]
          show Fact P _ (szF P e (xBad 66) fun n => cif (Nat.beq n 0) (xBad 66) (xPq (noByte P) neg (opA x) (opA y)))
          rw [szF_eq]
          cases P.info? e with
          | none => exact f_bad _ _
          | some i => exact cif_f (f_bad _ _) (f_r hk (d2 (f := xPq (noByte P) neg) (by intro x x' y y' cl F F' hh k e1 e2; simp only [xPq, e1, e2]) hx hy) (r_pq _ _))
      cases op <;> first | exact f_bad _ _ | exact pq _
    | map e f => cases op <;> first | exact f_bad _ _ | exact cif_f (nl 2 _) (f_bad _ _)
    | func e f g => cases op <;> first | exact f_bad _ _ | exact cif_f (nl 3 _) (f_bad _ _)
    | interface e => cases op <;> first | exact f_bad _ _ | exact cif_f (nl 4 _) (f_bad _ _)
    | _ => cases op <;> exact f_bad _ _
theorem f_cif {op : Op} {b : Bool} {x1 x2 : X} (h1 : Fact P op x1) (h2 : Fact P op x2) : Fact P op (cif b x1 x2) := by cases b <;> assumption
theorem f_szF {op : Op} {t : TypeId} {b : X} {k : Nat → X} (hb : Fact P op b) (hk : ∀ n, Fact P op (k n)) : Fact P op (szF P t b k) := by
  rw [szF_eq]; cases P.info? t with
  | none => exact hb
  | some i => exact hk _
theorem f_byF {op : Op} {t : TypeId} {b : X} {k : Nat → X} (hb : Fact P op b) (hk : ∀ n, Fact P op (k n)) : Fact P op (byF P t b k) := by
  rw [byF_eq]; cases P.info? t with
  | none => exact hb
  | some i => cases hz : i.zero with
    | none => simp only [hz]; exact hb
    | some v => simp only [hz]; split <;> first | exact hk _ | exact hb
theorem f_agF {op : Op} {t : TypeId} {b : X} {k : Bool → X} (hb : Fact P op b) (hk : ∀ n, Fact P op (k n)) : Fact P op (agF P t b k) := by
  rw [agF_eq]; cases agOf P t with
  | none => exact hb
  | some g => exact hk _
theorem f_zeroVF {op : Op} {t : TypeId} {b : X} {k : AV → X} (hb : Fact P op b) (hk : ∀ v, Fact P op (k v)) : Fact P op (zeroVF P t b k) := by
  rw [zeroVF_eq]; cases (P.info? t).bind (·.zero) with
  | none => exact hb
  | some v => exact hk _
theorem f_zeroF {op : Op} {t : TypeId} {b : X} {k : List AV → X} (hb : Fact P op b) (hk : ∀ v, Fact P op (k v)) : Fact P op (zeroF P t b k) := f_zeroVF hb fun v => hk _
theorem f_keyF {op : Op} {t : TypeId} {b : X} {k : (AV → AV → Option Bool) → Bool → X} (hb : Fact P op b) (hk : ∀ q f, Fact P op (k q f)) : Fact P op (keyF P t b k) := by
  rw [keyF_eq]; cases Ev.keyOf P t with
  | none => exact hb
  | some qf => exact hk _ _
theorem facts_call (cc : Call) : Fact P (.call cc) (trX P (.call cc) fun x => x) := by
  obtain ⟨callee, args, ats⟩ := cc
  have nop : ∀ b, callee = .builtin b → True := fun _ _ => trivial
  cases callee with
  | value f =>
    have hk : kdOp P (.call { callee := .value f, args := args, argTypes := ats }) = .eff := by cases f <;> rfl
    have ha : ∀ {F F' : Fr}, (∀ u ∈ (Op.call { callee := .value f, args := args, argTypes := ats }).operands.toList, opA u F = opA u F') → mapO (args.toList.map opA) F = mapO (args.toList.map opA) F' := fun ag => mapO_dep fun u hu => ag u (by simp [Op.operands, Call.operands]; exact .inr (by simpa using hu))
    have main : ∀ g : Operand, f = g → Fact P (.call { callee := .value f, args := args, argTypes := ats }) (xCallV (opA f) (args.toList.map opA)) := fun g _ => f_e (by rw [hk]; simp) (by rw [hk]; simp) fun cl F F' h k ag => by
      have e := ag f (by simp [Op.operands, Call.operands])
      simp only [xCallV, e, ha ag]
    cases f with
    | func f => simp only [trX, opsF_eq]; exact f_e (by rw [hk]; simp) (by rw [hk]; simp) fun cl F F' h k ag => by simp only [xCall, ha ag]
    | tmp n => simp only [trX, opF_eq, opsF_eq]; exact main _ rfl
    | const v => simp only [trX, opF_eq, opsF_eq]; exact main _ rfl
    | global g => simp only [trX, opF_eq, opsF_eq]; exact main _ rfl
  | invoke rv m => exact f_bad _ _
  | builtin b =>
    obtain ⟨args⟩ := args
    have hm : ∀ u ∈ args, u ∈ (Op.call { callee := .builtin b, args := ⟨args⟩, argTypes := ats }).operands.toList := fun u hu => by simp [Op.operands, Call.operands]; exact hu
    cases b with
    | len =>
      match args, hm with
      | [], _ => exact f_bad _ _
      | [x], hm =>
        have hx := hm x (by simp)
        simp only [trX, opF_eq]
        split
        · exact f_r (by simp [kdOp]) (fun cl F F' h k ag => rfl) (p_lenA _).read
        · exact f_r (by simp [kdOp]) (d1 (f := xLenS) (by intro x x' cl F F' hh k e1; simp only [xLenS, e1]) hx) p_lenS.read
        · exact f_r (by simp [kdOp]) (d1 (f := xLenL) (by intro x x' cl F F' hh k e1; simp only [xLenL, e1]) hx) p_lenL.read
        · exact f_r (by simp [kdOp]) (d1 (f := xLenM) (by intro x x' cl F F' hh k e1; simp only [xLenM, e1]) hx) r_lenM
        · exact f_bad _ _
      | _ :: _ :: _, _ => exact f_bad _ _
    | append =>
      match args, hm with
      | [x, y], hm =>
        have hx := hm x (by simp)
        have hy := hm y (by simp)
        have main : ∀ e sz z, Fact P (.call { callee := .builtin .append, args := ⟨[x, y]⟩, argTypes := ats }) (xApp e sz z (opA x) (opA y)) := fun e sz z =>
          f_e (by simp [kdOp]) (by simp [kdOp]) (d2 (f := xApp e sz z) (by intro x x' y y' cl F F' hh k e1 e2; simp only [xApp, e1, e2]) hx hy)
        simp only [trX, opF_eq]
        split
        · split
          · exact f_szF (f_bad _ _) fun sz => f_byF (f_bad _ _) fun z => f_cif (f_bad _ _) (main _ _ _)
          · exact f_szF (f_bad _ _) fun sz => f_byF (f_bad _ _) fun z => f_cif (f_bad _ _) (main _ _ _)
          · exact f_bad _ _
        · exact f_bad _ _
      | [], _ => exact f_bad _ _
      | [_], _ => exact f_bad _ _
      | _ :: _ :: _ :: _, _ => exact f_bad _ _
    | copy =>
      match args, hm with
      | [x, y], hm =>
        have hx := hm x (by simp)
        have hy := hm y (by simp)
        simp only [trX, opF_eq]
        split
        · exact f_szF (f_bad _ _) fun sz => f_e (by simp [kdOp]) (by simp [kdOp]) (d2 (f := xCpy sz) (by intro x x' y y' cl F F' hh k e1 e2; simp only [xCpy, e1, e2]) hx hy)
        · exact f_bad _ _
      | [], _ => exact f_bad _ _
      | [_], _ => exact f_bad _ _
      | _ :: _ :: _ :: _, _ => exact f_bad _ _
    | min =>
      match args, hm with
      | [x, y], hm => simp only [trX, opF_eq]; exact f_p (d2 (f := xMM minI) (by intro x x' y y' cl F F' hh k e1 e2; simp only [xMM, e1, e2]) (hm x (by simp)) (hm y (by simp))) (p_mm _)
      | [], _ => exact f_bad _ _
      | [_], _ => exact f_bad _ _
      | _ :: _ :: _ :: _, _ => exact f_bad _ _
    | max =>
      match args, hm with
      | [x, y], hm => simp only [trX, opF_eq]; exact f_p (d2 (f := xMM maxI) (by intro x x' y y' cl F F' hh k e1 e2; simp only [xMM, e1, e2]) (hm x (by simp)) (hm y (by simp))) (p_mm _)
      | [], _ => exact f_bad _ _
      | [_], _ => exact f_bad _ _
      | _ :: _ :: _ :: _, _ => exact f_bad _ _
    | _ => exact f_bad _ _
/-- Of each operation: what it looks at; whether it reads. -/
theorem facts (op : Op) : Fact P op (trX P op fun x => x) := by
  cases op with
  | move x => simp only [trX, opF_eq]; exact f_p (d1 (f := xMv) (by intro x x' cl F F' hh k e1; simp only [xMv, e1]) (by simp [Op.operands])) p_mv
  | assign x => simp only [trX, opF_eq]; exact f_p (d1 (f := xMv) (by intro x x' cl F F' hh k e1; simp only [xMv, e1]) (by simp [Op.operands])) p_mv
  | pick c a b => simp only [trX, opF_eq]; exact f_p (fun cl F F' hh k ag => by simp only [xPick, ag c (by simp [Op.operands]), ag a (by simp [Op.operands]), ag b (by simp [Op.operands])]) p_pick
  | alloc e => exact f_zeroF (f_bad _ _) fun z => f_e (by simp [kdOp]) (by simp [kdOp]) fun _ _ _ _ _ _ => rfl
  | box e x => simp only [trX, opF_eq]; exact f_e (by simp [kdOp]) (by simp [kdOp]) (d1 (f := xBox e) (by intro x x' cl F F' hh k e1; simp only [xBox, e1]) (by simp [Op.operands]))
  | build t ps =>
    simp only [trX, partsF_eq]
    exact f_cif (f_zeroF (f_bad _ _) fun z => f_cif (f_bad _ _) (f_p (fun cl F F' hh k ag => by simp only [xBld]; exact fillAll_dep (parts_dep ag _) z _) (p_bld _ _))) (f_bad _ _)
  | buildSlice t len ps =>
    simp only [trX, partsF_eq]
    split
    · exact f_byF (f_bad _ _) fun _ => f_szF (f_bad _ _) fun sz => f_cif (f_bad _ _) (f_zeroF (f_bad _ _) fun z => f_e (by simp [kdOp]) (by simp [kdOp]) fun cl F F' hh k ag => by simp only [xBldS]; exact fillAll_dep (parts_dep ag fun i => some (i * sz, sz)) _ _)
    · exact f_bad _ _
  | insert t m i v =>
    simp only [trX, opF_eq]
    split
    · exact f_keyF (f_bad _ _) fun q f => f_e (by simp [kdOp]) (by simp [kdOp]) fun cl F F' hh k ag => by
        simp only [xSelf, xMu, ag m (by simp [Op.operands]), ag i (by simp [Op.operands]), ag v (by simp [Op.operands])]
    · exact f_bad _ _
  | mapUpdate t m i v =>
    simp only [trX, opF_eq]
    split
    · exact f_keyF (f_bad _ _) fun q f => f_e (by simp [kdOp]) (by simp [kdOp]) fun cl F F' hh k ag => by
        simp only [xSelf, xMu, ag m (by simp [Op.operands]), ag i (by simp [Op.operands]), ag v (by simp [Op.operands])]
    · exact f_bad _ _
  | load t a =>
    simp only [trX, opF_eq]
    exact f_agF (f_bad _ _) fun g => f_cif (f_szF (f_bad _ _) fun n => f_r (by simp [kdOp]) (d1 (f := xLdN n) (by intro x x' cl F F' hh k e1; simp only [xLdN, e1]) (by simp [Op.operands])) (r_ldN n))
      (f_r (by simp [kdOp]) (d1 (f := xLd1) (by intro x x' cl F F' hh k e1; simp only [xLd1, e1]) (by simp [Op.operands])) r_ld1)
  | store t a x =>
    simp only [trX, opF_eq]
    exact f_szF (f_bad _ _) fun n => f_agF (f_bad _ _) fun g => f_cif (f_e (by simp [kdOp]) (by simp [kdOp]) (d2 (f := xStN n) (by intro x x' y y' cl F F' hh k e1 e2; simp only [xStN, e1, e2]) (by simp [Op.operands]) (by simp [Op.operands])))
      (f_cif (f_e (by simp [kdOp]) (by simp [kdOp]) (d2 (f := xSt1) (by intro x x' y y' cl F F' hh k e1 e2; simp only [xSt1, e1, e2]) (by simp [Op.operands]) (by simp [Op.operands]))) (f_bad _ _))
  | nilCheck x => simp only [trX, opF_eq]; exact f_p (d1 (f := xNil) (by intro x x' cl F F' hh k e1; simp only [xNil, e1]) (by simp [Op.operands])) p_nil
  | binOp op t x y t2 => exact facts_bin op t t2 x y
  | unOp op t x =>
    simp only [trX, opF_eq]
    cases op with
    | not => exact f_p (d1 (f := xNot) (by intro x x' cl F F' hh k e1; simp only [xNot, e1]) (by simp [Op.operands])) p_not
    | neg => exact f_p (d1 (f := xNeg) (by intro x x' cl F F' hh k e1; simp only [xNeg, e1]) (by simp [Op.operands])) p_neg
    | _ => exact f_bad _ _
  | convert src dst x =>
    have hk : kdOp P (.convert src dst x) ≠ .pure := by simp only [kdOp]; split <;> simp
    simp only [trX, opF_eq]
    split
    · rw [limF_eq]; exact f_r hk (d1 (f := xCvI _ _) (by intro x x' cl F F' hh k e1; simp only [xCvI, e1]) (by simp [Op.operands])) (p_cvI _).read
    · exact f_r hk (d1 (f := xCvS) (by intro x x' cl F F' hh k e1; simp only [xCvS, e1]) (by simp [Op.operands])) p_cvS.read
    · split
      · exact f_r hk (d1 (f := xCvBS) (by intro x x' cl F F' hh k e1; simp only [xCvBS, e1]) (by simp [Op.operands])) r_cvBS
      · exact f_bad _ _
    · rename_i hd
      have hk2 : kdOp P (.convert src dst x) ≠ .read := by simp only [kdOp, hd]; simp
      split
      · exact f_szF (f_bad _ _) fun sz => f_cif (f_e hk hk2 (d1 (f := xCvSB _) (by intro x x' cl F F' hh k e1; simp only [xCvSB, e1]) (by simp [Op.operands]))) (f_bad _ _)
      · exact f_bad _ _
    · exact f_bad _ _
  | makeInterface t x =>
    simp only [trX, opF_eq]
    split
    · exact f_bad _ _
    · exact f_p (d1 (f := xMkI t) (by intro x x' cl F F' hh k e1; simp only [xMkI, e1]) (by simp [Op.operands])) (p_mkI t)
    · exact f_bad _ _
  | makeFunc fn a b =>
    simp only [trX, opsF_eq]
    exact f_p (fun cl F F' hh k ag => by
      simp only [xMkF, mapO_dep fun u hu => ag u (by simp only [Op.operands, Array.toList_append]; exact List.mem_append_left _ hu), mapO_dep fun u hu => ag u (by simp only [Op.operands, Array.toList_append]; exact List.mem_append_right _ hu)]) (p_mkF fn _ _)
  | makeMap t rs =>
    cases rs with
    | none => exact f_e (by simp [kdOp]) (by simp [kdOp]) fun _ _ _ _ _ _ => rfl
    | some x => exact f_bad _ _
  | makeSlice t l c =>
    simp only [trX, opF_eq]
    split
    · exact f_zeroF (f_bad _ _) fun z => f_byF (f_bad _ _) fun y => f_e (by simp [kdOp]) (by simp [kdOp]) (d2 (f := xMkS _ y z) (by intro x x' y y' cl F F' hh k e1 e2; simp only [xMkS, e1, e2]) (by simp [Op.operands]) (by simp [Op.operands]))
    · exact f_bad _ _
  | slice t x lo hi mx =>
    cases mx with
    | some m => exact f_bad _ _
    | none =>
      have hx : ∀ {F F' : Fr}, (∀ u ∈ (Op.slice t x lo hi none).operands.toList, opA u F = opA u F') → opA x F = opA x F' ∧ (∀ u, lo = some u → opA u F = opA u F') ∧ ∀ u, hi = some u → opA u F = opA u F' := fun ag =>
        ⟨ag x (by simp [Op.operands]), fun u hu => ag u (by subst hu; simp [Op.operands]), fun u hu => ag u (by subst hu; simp [Op.operands])⟩
      simp only [trX, opF_eq, oopF_eq]
      split
      · exact f_r (by simp [kdOp]) (fun cl F F' hh k ag => by
          obtain ⟨h1, h2, h3⟩ := hx ag
          simp only [xSlS, h1, hiB_dep h3, loB_dep h2]) (p_slS _ _).read
      · exact f_szF (f_bad _ _) fun sz => f_r (by simp [kdOp]) (fun cl F F' hh k ag => by
          obtain ⟨h1, h2, h3⟩ := hx ag
          simp only [xSlL, h1, hiB_dep h3, loB_dep h2]) (r_slL _ _ _ _)
      · exact f_bad _ _
  | fieldAddr t x f =>
    simp only [trX, opF_eq]
    split
    · simp only [natF_eq]
      exact f_szF (f_bad _ _) fun sz => f_cif (f_bad _ _) (f_p (d1 (f := xFa _) (by intro x x' cl F F' hh k e1; simp only [xFa, e1]) (by simp [Op.operands])) (p_fa _))
    · exact f_bad _ _
  | field t x f =>
    simp only [trX, opF_eq]
    split
    · simp only [natF_eq]
      exact f_agF (f_bad _ _) fun ag => f_szF (f_bad _ _) fun sz => f_p (d1 (f := xFd ag sz _) (by intro x x' cl F F' hh k e1; simp only [xFd, e1]) (by simp [Op.operands])) (p_fd _ _ _)
    · exact f_bad _ _
  | indexAddr t x i =>
    simp only [trX, opF_eq]
    split
    · exact f_szF (f_bad _ _) fun sz => f_p (d2 (f := xIaS sz) (by intro x x' y y' cl F F' hh k e1 e2; simp only [xIaS, e1, e2]) (by simp [Op.operands]) (by simp [Op.operands])) (p_iaS _)
    · exact f_szF (f_bad _ _) fun sz => f_p (d2 (f := xIaA _ sz) (by intro x x' y y' cl F F' hh k e1 e2; simp only [xIaA, e1, e2]) (by simp [Op.operands]) (by simp [Op.operands])) (p_iaA _ _)
    · exact f_bad _ _
  | index t x i =>
    simp only [trX, opF_eq]
    split
    · exact f_p (d2 (f := xIxS) (by intro x x' y y' cl F F' hh k e1 e2; simp only [xIxS, e1, e2]) (by simp [Op.operands]) (by simp [Op.operands])) p_ixS
    · exact f_agF (f_bad _ _) fun ag => f_szF (f_bad _ _) fun sz => f_p (d2 (f := xIxA _ ag sz) (by intro x x' y y' cl F F' hh k e1 e2; simp only [xIxA, e1, e2]) (by simp [Op.operands]) (by simp [Op.operands])) (p_ixA _ _ _)
    · exact f_bad _ _
  | lookup t m i ok =>
    simp only [trX, opF_eq]
    split
    · exact f_zeroVF (f_bad _ _) fun z => f_keyF (f_bad _ _) fun q fl => f_r (by simp [kdOp]) (fun cl F F' hh k ag => by
        simp only [xSelf, xLk, ag m (by simp [Op.operands]), ag i (by simp [Op.operands])]) (r_lk q fl z ok)
    · exact f_bad _ _
  | typeAssert x t0 t ok =>
    simp only [trX, opF_eq]
    split
    · exact f_bad _ _
    · exact f_zeroVF (f_bad _ _) fun z => f_p (d1 (f := xTa t ok z) (by intro x x' cl F F' hh k e1; simp only [xTa, e1]) (by simp [Op.operands])) (p_ta t ok z)
    · exact f_bad _ _
  | extract x i => simp only [trX, opF_eq]; exact f_p (d1 (f := fun x => xExt x i) (by intro x x' cl F F' hh k e1; simp only [xExt, e1]) (by simp [Op.operands])) (p_ext i)
  | call cc => exact facts_call cc
  | _ => exact f_bad _ _
end
end Go.Ev

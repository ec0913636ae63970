/- Part of the proof of CompileForCardSaid. -/
import Derived.Test.YthhgndcpeeifeaaGreatDoorE23
import Derived.Test.YthhgndcpeeifeaaGreatDoorE14
set_option linter.unusedVariables false
set_option linter.unusedSimpArgs false
set_option linter.unusedSectionVars false
set_option linter.constructorNameAsVariable false
namespace Go.Ev
open Go Go.RowKit
/-- How many bytes from the first on are so. -/
noncomputable def spanF (f : Nat → Bool) (n : Nat) : Nat → Nat :=
  Nat.rec (motive := fun _ => Nat → Nat) (fun _ => 0) (fun _ ih c => cif (f (Nat.mod c 256)) (Nat.succ (ih (Nat.div c 256))) 0) n
theorem spanF_succ (f : Nat → Bool) (n c : Nat) : spanF f (n + 1) c = if f (c % 256) = true then spanF f n (c / 256) + 1 else 0 := by
  show cif (f (Nat.mod c 256)) (Nat.succ (spanF f n (Nat.div c 256))) 0 = _
  rw [cif_eq]; rfl
/-- A rope begins with the run, byte by byte, if no byte of it is one of the two. -/
theorem span_rope (A B : Nat) {f : Nat → Bool} (hf : ∀ b, f b = true → 2 < b) : ∀ n c, ∃ xs : List UInt8, rope A B n c = xs ++ rope A B (n - spanF f n c) (c / 256 ^ spanF f n c) ∧ xs.length = spanF f n c ∧ spanF f n c ≤ n ∧ encB xs = c % 256 ^ spanF f n c ∧ (∀ b ∈ xs, f b.toNat = true) ∧
      (spanF f n c < n → f (c / 256 ^ spanF f n c % 256) = false)
  | 0, c => ⟨[], rfl, rfl, Nat.le_refl _, by show 0 = c % 256 ^ 0; rw [Nat.pow_zero, Nat.mod_one], by simp, fun h => absurd h (Nat.lt_irrefl _)⟩
  | n + 1, c => by
    rw [spanF_succ]
    by_cases h : f (c % 256) = true
    · rw [if_pos h]
      obtain ⟨xs, h1, h2, h3, h4, h5, h6⟩ := span_rope A B hf n (c / 256)
      have hb : c % 256 < 256 := Nat.mod_lt _ (by omega)
      have hgt := hf _ h
      have hn : (UInt8.ofNat (c % 256)).toNat = c % 256 := by simp only [UInt8.toNat_ofNat']; omega
      have e1 : c / 256 ^ (spanF f n (c / 256) + 1) = c / 256 / 256 ^ spanF f n (c / 256) := by rw [Nat.pow_succ, Nat.mul_comm, Nat.div_div_eq_div_mul]
      refine ⟨UInt8.ofNat (c % 256) :: xs, ?_, by simp [h2], by omega, ?_, ?_, fun hlt => ?_⟩
      · rw [rope, if_neg (by omega), if_neg (by omega), h1, e1, Nat.add_sub_add_right]; simp
      · rw [encB_cons, hn, h4, Nat.pow_succ, Nat.mul_comm (256 ^ _) 256, Nat.mod_mul]
      · intro b hb'
        rcases List.mem_cons.1 hb' with rfl | hb'
        · rw [hn]; exact h
        · exact h5 b hb'
      · rw [e1]; exact h6 (by omega)
    · rw [if_neg h]
      exact ⟨[], by simp, rfl, Nat.zero_le _, by simp [encB, Nat.mod_one], by simp, fun _ => by simpa using h⟩
end Go.Ev
namespace Go.Ev
open Go Go.RowKit Go.Proofs.Lx6
variable {r : DV}
noncomputable def isLt (b : Nat) : Bool := cif (Nat.beq b 95) true (cif (an (Nat.ble 97 b) (Nat.ble b 122)) true (an (Nat.ble 65 b) (Nat.ble b 90)))
noncomputable def isWd (b : Nat) : Bool := cif (isLt b) true (isDg b)
noncomputable def numOf (n : Nat) : Nat → Nat → Nat :=
  Nat.rec (motive := fun _ => Nat → Nat → Nat) (fun _ a => a) (fun _ ih c a => ih (Nat.div c 256) (Nat.add (Nat.mul a 10) (Nat.sub (Nat.mod c 256) 48))) n
noncomputable def memN (x : Nat) (l : List Nat) : Bool := List.rec (motive := fun _ => Bool) false (fun a _ ih => cif (Nat.beq a x) true ih) l
/-- The marks of two bytes and of one. -/
def marks2 : List Nat := [33 + 256 * 33, 63 + 256 * 63, 45 + 256 * 62, 58 + 256 * 58, 43 + 256 * 43, 45 + 256 * 45, 60 + 256 * 60, 62 + 256 * 62, 60 + 256 * 61, 62 + 256 * 61, 61 + 256 * 61, 33 + 256 * 61, 38 + 256 * 38, 124 + 256 * 124, 46 + 256 * 46]
def marks1 : List Nat := [33, 63, 60, 62, 61, 43, 45, 42, 37, 38, 94, 124, 126, 40, 41, 91, 93, 123, 125, 44, 59, 58, 46, 64, 35]
/-- The byte behind m of n is none that a figure may stand for. -/
noncomputable def endOk (n m c : Nat) : Bool := cif (Nat.ble n m) true (nt (isSy (Nat.mod (Nat.div c (Nat.pow 256 m)) 256)))
noncomputable def tokF (kd : Nat) (t v : AV) (p x y ln : Nat) (go : (List AV → Nat → Res) → Res) (k : List AV → Nat → Res) : Res :=
  posF p x y fun at_ => natF ln fun l1 => go fun r q => k (.i .i64 (.ofNat kd) :: at_ :: .i .i64 (.ofNat l1) :: t :: v :: r) (Nat.succ q)
/-- A token, or a blank, and what is behind it. -/
noncomputable def lexS (ih : Nat → Nat → Nat → Nat → Nat → Nat → (List AV → Nat → Res) → Res) (n c p x y ln : Nat) (k : List AV → Nat → Res) : Res :=
  natF n fun n => natF c fun c => natF p fun p =>
      cif (Nat.beq n 0) (posF p x y fun at_ => natF ln fun ln => k [.i .i64 (.ofNat 0), at_, .i .i64 (.ofNat ln), .s 0 0, .i .i64 (.ofNat 0)] 1)
      (natF (Nat.mod c 256) fun b =>
        cif (Nat.beq b 32) (ih (Nat.pred n) (Nat.div c 256) (Nat.succ p) x y ln k)
        (cif (Nat.beq b 10) (ih (Nat.pred n) (Nat.div c 256) (Nat.succ p) x y (Nat.succ ln) k)
        (cif (isLt b) (natF (spanF isWd n c) fun m => cif (an (Nat.ble m 32) (endOk n m c))
          (natF (Nat.mod c (Nat.pow 256 m)) fun d => tokF 1 (.s m d) (.i .i64 (.ofNat 0)) p x y ln (ih (Nat.sub n m) (Nat.div c (Nat.pow 256 m)) (Nat.add p m) x y ln) k) (bad 122))
        (cif (isDg b) (natF (spanF isDg n c) fun m => natF (numOf m c 0) fun v => cif (an (Nat.ble v 2147483647) (endOk n m c))
          (natF (Nat.mod c (Nat.pow 256 m)) fun d => tokF 2 (.s m d) (.i .i64 (.ofNat v)) p x y ln (ih (Nat.sub n m) (Nat.div c (Nat.pow 256 m)) (Nat.add p m) x y ln) k) (bad 123))
        (natF (cif (Nat.ble n 1) 0 (Nat.mod (Nat.div c 256) 256)) fun b2 =>
        cif (isSy b) (cif (cif (isDg b2) true (isSy b2)) (bad 124)
          (natF (ropeY 1 b) fun t => cif (Nat.beq b 1)
            (tokF 2 (.y t) (.y 0) p x y ln (ih (Nat.pred n) (Nat.div c 256) p (Nat.succ x) y ln) k)
            (tokF 2 (.y t) (.y 2) p x y ln (ih (Nat.pred n) (Nat.div c 256) p x (Nat.succ y) ln) k)))
        (cif (memN b marks1) (natF (Nat.add b (Nat.mul 256 b2)) fun d => cif (memN d marks2)
          (tokF 4 (.s 2 d) (.i .i64 (.ofNat 0)) p x y ln (ih (Nat.pred (Nat.pred n)) (Nat.div (Nat.div c 256) 256) (Nat.add p 2) x y ln) k)
          (tokF 4 (.s 1 b) (.i .i64 (.ofNat 0)) p x y ln (ih (Nat.pred n) (Nat.div c 256) (Nat.succ p) x y ln) k)) (bad 125)))))))
/-- The tokens of a rope: cells, one behind the other; how many (k: cells, count). -/
noncomputable def lexR (fuel : Nat) : Nat → Nat → Nat → Nat → Nat → Nat → (List AV → Nat → Res) → Res :=
  Nat.rec (motive := fun _ => Nat → Nat → Nat → Nat → Nat → Nat → (List AV → Nat → Res) → Res) (fun _ _ _ _ _ _ _ => bad 121) (fun _ ih => lexS ih) fuel
theorem nMod (a b : Nat) : Nat.mod a b = a % b := rfl
theorem nDiv (a b : Nat) : Nat.div a b = a / b := rfl
theorem nPow (a b : Nat) : Nat.pow a b = a ^ b := rfl
theorem nSub (a b : Nat) : Nat.sub a b = a - b := rfl
theorem nAdd (a b : Nat) : Nat.add a b = a + b := rfl
theorem nMul (a b : Nat) : Nat.mul a b = a * b := rfl
/-! what these say -/
theorem isLt_eq {b : Nat} : isLt b = letF (b : Int) := by
  rw [Bool.eq_iff_iff]
  unfold isLt letF
  simp only [cif_eq, an_eq]
  simp only [Nat.beq_eq, Nat.ble_eq, decide_eq_true_eq, Bool.and_eq_true]
  split
  · rename_i h; simp only [true_iff]; omega
  · split
    · rename_i h; simp only [true_iff]; omega
    · simp only [Bool.and_eq_true, Nat.ble_eq]; omega
theorem isDg_int {b : Nat} : isDg b = digF (b : Int) := by
  rw [Bool.eq_iff_iff, isDg_eq]
  unfold digF
  simp only [decide_eq_true_eq]
  omega
theorem isWd_eq {b : Nat} : isWd b = (letF (b : Int) || digF (b : Int)) := by
  unfold isWd
  rw [cif_eq, isLt_eq, isDg_int]
  cases letF (b : Int) <;> rfl
theorem isWd_gt : ∀ b, isWd b = true → 2 < b := by
  intro b h
  rw [isWd_eq] at h
  unfold letF digF at h
  simp only [Bool.or_eq_true, decide_eq_true_eq] at h
  omega
theorem isDg_gt : ∀ b, isDg b = true → 2 < b := by
  intro b h
  rw [isDg_eq] at h; simp at h; omega
theorem memN_mem {x : Nat} : ∀ {l : List Nat}, memN x l = true → x ∈ l
  | [], h => by cases h
  | a :: l, h => by
    have h' : cif (Nat.beq a x) true (memN x l) = true := h
    rw [cif_eq] at h'
    split at h'
    · rename_i e; have := Nat.eq_of_beq_eq_true e; subst this; simp
    · exact List.mem_cons_of_mem _ (memN_mem h')
theorem mem_memN {x : Nat} : ∀ {l : List Nat}, x ∈ l → memN x l = true
  | a :: l, h => by
    show cif (Nat.beq a x) true (memN x l) = true
    rw [cif_eq]
    split
    · rfl
    · rename_i e
      rcases List.mem_cons.1 h with rfl | h
      · exact absurd (Nat.beq_refl x) e
      · exact mem_memN h
theorem one_tab : ∀ n : Fin 256, memN n.val marks1 = true → UInt8.ofNat n.val ∈ oneM ∧ n.val ≠ 10 ∧ n.val ≠ 32 ∧ n.val ≠ 9 ∧ n.val ≠ 12 ∧ n.val ≠ 13 ∧ n.val ≠ 92 ∧ n.val ≠ 47 ∧ n.val ≠ 34 ∧ n.val ≠ 39 := by decide +kernel
theorem one_of {h : UInt8} (hm : memN h.toNat marks1 = true) : h ∈ oneM ∧ (h ≠ 10 ∧ h ≠ 32 ∧ h ≠ 9 ∧ h ≠ 12 ∧ h ≠ 13 ∧ h ≠ 92 ∧ h ≠ 47) ∧ h ≠ 34 ∧ h ≠ 39 := by
  have := one_tab ⟨h.toNat, h.toNat_lt⟩ hm
  simp only [UInt8.ofNat_toNat] at this
  obtain ⟨h0, h1, h2, h3, h4, h5, h6, h7, h8, h9⟩ := this
  have ne : ∀ c : UInt8, h.toNat ≠ c.toNat → h ≠ c := fun c hc e => hc (by rw [e])
  exact ⟨h0, ⟨ne _ h1, ne _ h2, ne _ h3, ne _ h4, ne _ h5, ne _ h6, ne _ h7⟩, ne _ h8, ne _ h9⟩
theorem one_alone : ∀ x ∈ oneM, (srch (fun j => (marksL.getD j []).isPrefixOf [x]) 0 41).map (fun j => marksL.getD j []) = some [x] := by decide +kernel
theorem two_tab : ∀ q ∈ twoM, memN (q.1.toNat + 256 * q.2.toNat) marks2 = true := by decide +kernel
theorem two_of {x y : UInt8} : twoM.contains (x, y) = memN (x.toNat + 256 * y.toNat) marks2 := by
  rw [Bool.eq_iff_iff]
  constructor
  · intro h
    exact two_tab (x, y) (by simpa using h)
  · intro h
    have hm := memN_mem h
    have hx := x.toNat_lt
    have hy := y.toNat_lt
    have key : ∀ a b : Nat, a < 256 → b < 256 → x.toNat + 256 * y.toNat = a + 256 * b → (x, y) = (UInt8.ofNat a, UInt8.ofNat b) := fun a b ha hb e => by
      have h1 : x.toNat = a := by omega
      have h2 : y.toNat = b := by omega
      rw [← h1, ← h2]; simp
    simp only [marks2, List.mem_cons, List.not_mem_nil, or_false] at hm
    rcases hm with h | h | h | h | h | h | h | h | h | h | h | h | h | h | h <;> (rw [key _ _ (by decide) (by decide) h]; decide)
theorem num_of : ∀ (xs : List UInt8) (c a : Nat), encB xs = c % 256 ^ xs.length → (∀ b ∈ xs, 48 ≤ b.toNat) → ((numOf xs.length c a : Nat) : Int) = numL xs a
  | [], _, _, _, _ => rfl
  | b :: r, c, a, h, hd => by
    have hb := b.toNat_lt
    rw [encB_cons, List.length_cons, Nat.pow_succ, Nat.mul_comm (256 ^ _) 256, Nat.mod_mul] at h
    have h1 : c % 256 = b.toNat := by omega
    have h2 : encB r = c / 256 % 256 ^ r.length := by omega
    have h48 := hd b (by simp)
    show ((numOf r.length (c / 256) (a * 10 + (c % 256 - 48)) : Nat) : Int) = numL r ((a : Int) * 10 + ((b.toNat : Int) - 48))
    rw [num_of r (c / 256) _ h2 fun b hb => hd b (by simp [hb]), h1]
    congr 1
    omega
/-! what is told -/
section
variable {P : Program} {base : Nat}
/-- What the rule tells from a place on is what lex.Tokens tells. -/
def LexOk (P : Program) (ρ : Rn) (l : List UInt8) (a ln : Nat) (k : List AV → Nat → Res) (r : DV) : Prop :=
  ∃ cells pts lnE F, k cells (pts.length + 1) = .ok r ∧ toksL l F a ln = some (pts, lnE) ∧ RL P ρ cells (pts.flatMap (tokC l) ++ [.int .i64 0, .int .i64 l.length, .int .i64 lnE, .string ⟨#[]⟩, .int .i64 0])
theorem LexOk.blank {ρ : Rn} {l : List UInt8} {a ln j : Nat} {k : List AV → Nat → Res} (h : LexOk P ρ l (a + 1) (ln + j) k r) (ha : a < l.length) (hb : blankF (bt l a) l a = some (1, j)) : LexOk P ρ l a ln k r := by
  obtain ⟨cells, pts, lnE, F, h1, h2, h3⟩ := h
  refine ⟨cells, pts, lnE, F + 1, h1, ?_, h3⟩
  rw [toksL, if_pos ha, hb]
  exact h2
theorem LexOk.tok {ρ : Rn} {l : List UInt8} {a ln kd m j : Nat} {t : List UInt8} {v : Int} {ta tv at_ : AV} {k : List AV → Nat → Res} (h : LexOk P ρ l (a + m) ln (fun r q => k (.i .i64 (.ofNat kd) :: at_ :: .i .i64 (.ofNat ln) :: ta :: tv :: r) (Nat.succ q)) r)
    (ha : a < l.length) (hb : blankF (bt l a) l a = some (0, j)) (hn : nextF l a = ⟨0, kd, t, v, m⟩) (r1 : RV P ρ at_ (.int .i64 a)) (r2 : RV P ρ ta (.string ⟨t.toArray⟩)) (r3 : RV P ρ tv (.int .i64 v)) : LexOk P ρ l a ln k r := by
  obtain ⟨cells, pts, lnE, F, h1, h2, h3⟩ := h
  refine ⟨_, (a, ln) :: pts, lnE, F + 1, h1, ?_, ?_⟩
  · rw [toksL, if_pos ha, hb]
    simp only [hn, if_true, h2, Option.map_some]
  · rw [List.flatMap_cons, tokC, hn, List.append_assoc]
    simp only [List.cons_append, List.nil_append, RL]
    exact ⟨_, _, rfl, by simp only [RV]; rfl, _, _, rfl, r1, _, _, rfl, by simp only [RV]; rfl, _, _, rfl, r2, _, _, rfl, r3, h3⟩
theorem tokF_ok {ρ : Rn} {h : Hp} {w : World} (s : Sim P base ρ h w) {A B : Nat} {M : Int} (e : ρ.sy = den A B M) {kd : Nat} {t v : AV} {p x y ln pos : Nat} {go : (List AV → Nat → Res) → Res} {k : List AV → Nat → Res} (hx : tokF kd t v p x y ln go k = .ok r)
    (hp : pos = p + x * (dec A).length + y * (dec B).length) : ∃ at_, RV P ρ at_ (.int .i64 pos) ∧ go (fun r q => k (.i .i64 (.ofNat kd) :: at_ :: .i .i64 (.ofNat ln) :: t :: v :: r) (Nat.succ q)) = .ok r := by
  unfold tokF at hx
  obtain ⟨at_, h1, h2⟩ := posF_ok s e hx
  rw [natF_eq] at h1
  exact ⟨at_, by rw [hp]; exact h2, h1⟩
theorem endOk_sy {n m c : Nat} (h : endOk n m c = true) (hm : m < n) : isSy (c / 256 ^ m % 256) = false := by
  unfold endOk at h
  rw [cif_eq, if_neg (by rw [Nat.ble_eq]; omega), nt_eq] at h
  show isSy (Nat.mod (Nat.div c (Nat.pow 256 m)) 256) = false
  simpa using h
/-- Behind a run of bytes stands none of its kind. -/
theorem rest_no {A B n m c : Nat} {f : Nat → Bool} (h : m < n → f (c / 256 ^ m % 256) = false) (he : endOk n m c = true) (b : UInt8) (t : List UInt8) (hb : rope A B (n - m) (c / 256 ^ m) = b :: t) : f b.toNat = false := by
  by_cases hm : m < n
  · obtain ⟨j, hj⟩ : ∃ j, n - m = j + 1 := ⟨n - m - 1, by omega⟩
    rw [hj] at hb
    obtain ⟨h0, tl, e, _, g⟩ := rope_head A B j (c / 256 ^ m)
    rw [hb] at e
    cases e
    rw [g (endOk_sy he hm)]; exact h hm
  · rw [show n - m = 0 by omega] at hb; cases hb
theorem rope_one (A B n c : Nat) (h : isSy (c % 256) = false) : rope A B (n + 1) c = UInt8.ofNat (c % 256) :: rope A B n (c / 256) ∧ (UInt8.ofNat (c % 256)).toNat = c % 256 := by
  rw [isSy_eq] at h
  have h' : ¬ (1 ≤ c % 256 ∧ c % 256 ≤ 2) := by simpa using h
  have hb : c % 256 < 256 := Nat.mod_lt _ (by omega)
  refine ⟨?_, by simp only [UInt8.toNat_ofNat']; omega⟩
  rw [rope, if_neg (by omega), if_neg (by omega)]; rfl
theorem al_ne {x : UInt8} (h : (letF (x.toNat : Int) || digF (x.toNat : Int)) = true) : x ≠ 10 ∧ x ≠ 32 ∧ x ≠ 9 ∧ x ≠ 12 ∧ x ≠ 13 ∧ x ≠ 92 ∧ x ≠ 47 := by
  unfold letF digF at h
  simp only [Bool.or_eq_true, decide_eq_true_eq] at h
  have ne : ∀ c : UInt8, x.toNat ≠ c.toNat → x ≠ c := fun c hc e => hc (by rw [e])
  refine ⟨ne _ ?_, ne _ ?_, ne _ ?_, ne _ ?_, ne _ ?_, ne _ ?_, ne _ ?_⟩ <;> intro q <;> rw [q] at h <;> revert h <;> decide
section
variable {ρ : Rn} {h : Hp} {w : World} {A B : Nat} {M : Int}
theorem tok_any (s : Sim P base ρ h w) (e : ρ.sy = den A B M) {f : Nat} (ih : ∀ (n c p x y ln : Nat) (pre l : List UInt8) (k : List AV → Nat → Res), l = pre ++ rope A B n c → pre.length = p + x * (dec A).length + y * (dec B).length → lexR f n c p x y ln k = .ok r → LexOk P ρ l pre.length ln k r)
    {pre xs l : List UInt8} {n2 c2 p x y p2 x2 y2 ln kd : Nat} {ta tv : AV} {t : List UInt8} {v : Int} {k : List AV → Nat → Res} (hl : l = pre ++ (xs ++ rope A B n2 c2)) (hp : pre.length = p + x * (dec A).length + y * (dec B).length)
    (hp2 : pre.length + xs.length = p2 + x2 * (dec A).length + y2 * (dec B).length) (hx : xs ≠ []) (hb : blankF (bt l pre.length) l pre.length = some (0, 0)) (hn : nextF l pre.length = ⟨0, kd, t, v, xs.length⟩) (r2 : RV P ρ ta (.string ⟨t.toArray⟩)) (r3 : RV P ρ tv (.int .i64 v))
    (hk : tokF kd ta tv p x y ln (lexR f n2 c2 p2 x2 y2 ln) k = .ok r) : LexOk P ρ l pre.length ln k r := by
  obtain ⟨at_, h1, h2⟩ := tokF_ok s e hk hp
  have hl2 : l = (pre ++ xs) ++ rope A B n2 c2 := by rw [hl, List.append_assoc]
  have i := ih n2 c2 p2 x2 y2 ln (pre ++ xs) l _ hl2 (by rw [List.length_append]; exact hp2) h2
  rw [List.length_append] at i
  have hpos := List.length_pos_iff.2 hx
  exact i.tok (by rw [hl, List.length_append, List.length_append]; omega) hb hn h1 r2 r3
theorem lexR_ok (s : Sim P base ρ h w) (e : ρ.sy = den A B M) (hA : A < 2147483648) (hB : B < 2147483648) : ∀ (f n c p x y ln : Nat) (pre l : List UInt8) (k : List AV → Nat → Res), l = pre ++ rope A B n c → pre.length = p + x * (dec A).length + y * (dec B).length →
    lexR f n c p x y ln k = .ok r → LexOk P ρ l pre.length ln k r
  | 0, _, _, _, _, _, _, _, _, _, _, _, hx => bad_ok hx
  | f + 1, n, c, p, x, y, ln, pre, l, k, hl, hp, hx => by
    have ih : ∀ (n c p x y ln : Nat) (pre l : List UInt8) (k : List AV → Nat → Res), l = pre ++ rope A B n c → pre.length = p + x * (dec A).length + y * (dec B).length → lexR f n c p x y ln k = .ok r → LexOk P ρ l pre.length ln k r :=
      fun n c p x y ln pre l k a b d => lexR_ok s e hA hB f n c p x y ln pre l k a b d
    have hx1 : lexS (lexR f) n c p x y ln k = .ok r := hx
    clear hx
    unfold lexS at hx1
    simp only [natF_eq, cif_eq, nMod, nDiv, nPow, nSub, nAdd, nMul] at hx1
    rcases ite_ok hx1 with ⟨h0, hx2⟩ | ⟨h0, hx2⟩
    · have h0 : n = 0 := by simpa using h0
      subst h0
      have hl0 : l = pre := by rw [hl]; simp [rope]
      subst hl0
      obtain ⟨at_, h1, h2⟩ := posF_ok s e hx2
      refine ⟨_, [], ln, 1, h1, ?_, ?_⟩
      · rw [toksL, if_neg (Nat.lt_irrefl _)]
      · rw [List.flatMap_nil, List.nil_append]
        simp only [RL]
        exact ⟨_, _, rfl, by simp only [RV]; rfl, _, _, rfl, by rw [hp]; exact h2, _, _, rfl, by simp only [RV]; rfl, _, _, rfl, by simp only [RV]; exact ⟨_, rfl, rfl, rfl⟩, _, _, rfl, by simp only [RV]; rfl, rfl⟩
    · clear hx1
      obtain ⟨n, rfl⟩ : ∃ m, n = m + 1 := ⟨n - 1, by have : n ≠ 0 := fun q => h0 (by rw [q]; rfl); omega⟩
      have hpn : Nat.pred (n + 1) = n := rfl
      simp only [hpn] at hx2
      have blank : ∀ b : Nat, isSy b = false → c % 256 = b → l = pre ++ UInt8.ofNat b :: rope A B n (c / 256) ∧ l = (pre ++ [UInt8.ofNat b]) ++ rope A B n (c / 256) := fun b hb hc => by
        have h1 := (rope_one A B n c (by rw [hc]; exact hb)).1
        rw [hc] at h1
        rw [hl, h1]; simp
      have lenS : ∀ b : UInt8, (pre ++ [b]).length = (p + 1) + x * (dec A).length + y * (dec B).length := fun b => by rw [List.length_append, hp]; simp; omega
      rcases ite_ok hx2 with ⟨h1, hx3⟩ | ⟨h1, hx3⟩
      · have h1 : c % 256 = 32 := by simpa using h1
        obtain ⟨e1, e2⟩ := blank 32 (by decide) h1
        have i := ih n (c / 256) (p + 1) x y ln _ l k e2 (lenS _) hx3
        rw [List.length_append] at i
        refine LexOk.blank (j := 0) i (by rw [e1]; simp) ?_
        rw [e1]; exact blank_sp pre _
      · rcases ite_ok hx3 with ⟨h2, hx4⟩ | ⟨h2, hx4⟩
        · have h2 : c % 256 = 10 := by simpa using h2
          obtain ⟨e1, e2⟩ := blank 10 (by decide) h2
          have i := ih n (c / 256) (p + 1) x y (ln + 1) _ l k e2 (lenS _) hx4
          rw [List.length_append] at i
          refine LexOk.blank (j := 1) i (by rw [e1]; simp) ?_
          rw [e1]; exact blank_nl pre _
        · clear hx3 hx2
          rcases ite_ok hx4 with ⟨h3, hx5⟩ | ⟨h3, hx5⟩
          · -- a word
            obtain ⟨h4, hx6⟩ := ite_bad hx5
            rw [an_eq, Bool.and_eq_true, Nat.ble_eq] at h4
            obtain ⟨xs, q1, q2, q3, q4, q5, q6⟩ := span_rope A B isWd_gt (n + 1) c
            generalize hm : spanF isWd (n + 1) c = m at *
            have hw : isWd (c % 256) = true := by rw [isWd_eq, ← isLt_eq, h3]; rfl
            have hm1 : 1 ≤ m := by rw [← hm, spanF_succ, if_pos hw]; omega
            obtain ⟨x0, t0, hx0⟩ : ∃ x0 t0, xs = x0 :: t0 := by
              cases hxs : xs with
              | nil => rw [hxs] at q2; simp at q2; omega
              | cons a b => exact ⟨a, b, rfl⟩
            have hsy : isSy (c % 256) = false := by have := isWd_gt _ hw; rw [isSy_eq]; simp; omega
            obtain ⟨r1, r2⟩ := rope_one A B n c hsy
            have hx00 : x0.toNat = c % 256 := by
              rw [r1, hx0] at q1
              injection q1 with q1 _
              rw [← q1, r2]
            have hall : ∀ b ∈ xs, (letF (b.toNat : Int) || digF (b.toNat : Int)) = true := fun b hb => by rw [← isWd_eq]; exact q5 b hb
            refine tok_any s e ih (xs := xs) (by rw [hl, q1]) hp (by rw [q2, hp]; show _ = (p + m) + _ + _; omega) (by rw [hx0]; simp) ?_
              (nextF_word (pre := pre) (xs := xs) (ys := rope A B (n + 1 - m) (c / 256 ^ m)) (by rw [hl, q1]) hx0 (by rw [hx00, ← isLt_eq]; exact h3) hall
                (fun b t hb => by rw [← isWd_eq]; exact rest_no q6 h4.2 b t hb) (by omega)) ?_ (by simp only [RV]; rfl) hx6
            · have hb0 := blank_no pre (t0 ++ rope A B (n + 1 - m) (c / 256 ^ m)) x0 (al_ne (hall x0 (by rw [hx0]; simp)))
              rw [hl, q1, hx0]; exact hb0
            · simp only [RV]; exact ⟨_, rfl, by simpa using q2, by simpa using q4⟩
          · rcases ite_ok hx5 with ⟨h4, hx6⟩ | ⟨h4, hx6⟩
            · -- a number
              obtain ⟨h5, hx7⟩ := ite_bad hx6
              rw [an_eq, Bool.and_eq_true, Nat.ble_eq] at h5
              obtain ⟨xs, q1, q2, q3, q4, q5, q6⟩ := span_rope A B isDg_gt (n + 1) c
              generalize hm : spanF isDg (n + 1) c = m at *
              have hm1 : 1 ≤ m := by rw [← hm, spanF_succ, if_pos h4]; omega
              obtain ⟨x0, t0, hx0⟩ : ∃ x0 t0, xs = x0 :: t0 := by
                cases hxs : xs with
                | nil => rw [hxs] at q2; simp at q2; omega
                | cons a b => exact ⟨a, b, rfl⟩
              have hsy : isSy (c % 256) = false := by have := isDg_gt _ h4; rw [isSy_eq]; simp; omega
              obtain ⟨r1, r2⟩ := rope_one A B n c hsy
              have hx00 : x0.toNat = c % 256 := by
                rw [r1, hx0] at q1
                injection q1 with q1 _
                rw [← q1, r2]
              have hall : ∀ b ∈ xs, digF (b.toNat : Int) = true := fun b hb => by rw [← isDg_int]; exact q5 b hb
              have hnum : ((numOf m c 0 : Nat) : Int) = numL xs 0 := by
                have := num_of xs c 0 (by rw [q2]; exact q4) fun b hb => by have := q5 b hb; rw [isDg_eq] at this; simp at this; omega
                rw [q2] at this; exact this
              have hdv : dval l pre.length xs.length = ((numOf m c 0 : Nat) : Int) := by rw [hl, q1, dval_num pre _ xs.length xs rfl, hnum]
              refine tok_any s e ih (xs := xs) (by rw [hl, q1]) hp (by rw [q2, hp]; show _ = (p + m) + _ + _; omega) (by rw [hx0]; simp) ?_
                (nextF_num (pre := pre) (xs := xs) (ys := rope A B (n + 1 - m) (c / 256 ^ m)) (by rw [hl, q1]) hx0 (by rw [hx00, ← isLt_eq]; simpa using h3) hall
                  (fun b t hb => by rw [← isDg_int]; exact rest_no q6 h5.2 b t hb) hdv (by omega)) ?_ (by simp only [RV]; rfl) hx7
              · have hb0 := blank_no pre (t0 ++ rope A B (n + 1 - m) (c / 256 ^ m)) x0 (al_ne (by rw [hall x0 (by rw [hx0]; simp)]; simp))
                rw [hl, q1, hx0]; exact hb0
              · simp only [RV]; exact ⟨_, rfl, by simpa using q2, by simpa using q4⟩
            · rcases ite_ok hx6 with ⟨h5, hx7⟩ | ⟨h5, hx7⟩
              · -- an unknown number
                rcases ite_ok hx7 with ⟨_, hx8⟩ | ⟨h6, hx8⟩
                · exact bad_ok hx8
                have hnx : ∀ b t, rope A B n (c / 256) = b :: t → digF (b.toNat : Int) = false := fun b t hb => by
                  cases n with
                  | zero => cases hb
                  | succ n =>
                    have hb2 : (if Nat.ble (n + 1 + 1) 1 = true then 0 else c / 256 % 256) = c / 256 % 256 := if_neg (by rw [Nat.ble_eq]; omega)
                    rw [hb2] at h6
                    obtain ⟨h0, tl, e0, g1, g2⟩ := rope_head A B n (c / 256)
                    rw [hb] at e0
                    cases e0
                    cases hs : isSy (c / 256 % 256) with
                    | true => rw [hs] at h6; exfalso; revert h6; cases isDg (c / 256 % 256) <;> simp
                    | false =>
                      rw [← isDg_int, g2 hs]
                      cases hd : isDg (c / 256 % 256) with
                      | true => rw [hd] at h6; simp at h6
                      | false => rfl
                have sym : ∀ (N p2 x2 y2 v : Nat) (b : Nat), N < 2147483648 → c % 256 = b → (rope A B 1 b = dec N) → isSy b = true → rope A B (n + 1) c = dec N ++ rope A B n (c / 256) → ρ.sy v = .int .i64 N → pre.length + (dec N).length = p2 + x2 * (dec A).length + y2 * (dec B).length → tokF 2 (.y (ropeY 1 b)) (.y v) p x y ln (lexR f n (c / 256) p2 x2 y2 ln) k = .ok r → LexOk P ρ l pre.length ln k r := by
                  intro N p2 x2 y2 v b hN hcb hr1 hsb hr hv hlen hk
                  have hne : dec N ≠ [] := decN_ne 10 N
                  obtain ⟨x0, t0, hx0⟩ : ∃ x0 t0, dec N = x0 :: t0 := by
                    cases hxs : dec N with
                    | nil => exact absurd hxs hne
                    | cons a b => exact ⟨a, b, rfl⟩
                  have hall : ∀ b ∈ dec N, digF (b.toNat : Int) = true := fun b hb => by
                    have := decN_dig 10 N b hb
                    unfold digF; simp only [decide_eq_true_eq]; omega
                  have hx0d := hall x0 (by rw [hx0]; simp)
                  have hx0l : letF (x0.toNat : Int) = false := by
                    unfold digF at hx0d
                    unfold letF
                    simp only [decide_eq_true_eq] at hx0d
                    simp only [decide_eq_false_iff_not]; omega
                  have hdv : dval l pre.length (dec N).length = (N : Int) := by rw [hl, hr, dval_num pre _ _ (dec N) rfl, num_dec hN]
                  refine tok_any s e ih (xs := dec N) (by rw [hl, hr]) hp hlen hne ?_
                    (nextF_num (pre := pre) (xs := dec N) (ys := rope A B n (c / 256)) (by rw [hl, hr]) hx0 hx0l hall hnx hdv (by omega)) ?_ ?_ hk
                  · have hb0 := blank_no pre (t0 ++ rope A B n (c / 256)) x0 (al_ne (by rw [hx0d]; simp))
                    rw [hl, hr, hx0]; exact hb0
                  · simp only [RV]
                    refine ⟨?_, trivial⟩
                    rw [e, den_rope A B (by omega), hr1]
                  · simp only [RV]
                    exact ⟨hv.symm, trivial⟩
                rcases ite_ok hx8 with ⟨h7, hx9⟩ | ⟨h7, hx9⟩
                · have h7 : c % 256 = 1 := by simpa using h7
                  rw [h7] at hx9
                  refine sym A p (x + 1) y 0 1 hA h7 (by simp [rope]) (by decide) (by rw [rope, if_pos h7]) (by rw [e]; rfl) (by rw [hp, Nat.succ_mul]; omega) hx9
                · have h7 : c % 256 = 2 := by
                    have : ¬ c % 256 = 1 := by simpa using h7
                    rw [isSy_eq] at h5; simp at h5; omega
                  rw [h7] at hx9
                  refine sym B p x (y + 1) 2 2 hB h7 (by simp [rope]) (by decide) (by rw [rope, if_neg (by omega), if_pos h7]) (by rw [e]; rfl) (by rw [hp, Nat.succ_mul]; omega) hx9
              · -- a mark
                obtain ⟨h6, hx8⟩ := ite_bad hx7
                have hsy : isSy (c % 256) = false := by simpa using h5
                obtain ⟨r1, r2⟩ := rope_one A B n c hsy
                generalize hx0 : UInt8.ofNat (c % 256) = x0 at r1 r2
                rw [← r2] at h6 h3 h4 hx8
                obtain ⟨g1, g2, g3, g4⟩ := one_of h6
                have hl0 : letF (x0.toNat : Int) = false := by rw [← isLt_eq]; simpa using h3
                have hd0 : digF (x0.toNat : Int) = false := by rw [← isDg_int]; simpa using h4
                have hlx : l = pre ++ x0 :: rope A B n (c / 256) := by rw [hl, r1]
                have hb0 := blank_no pre (rope A B n (c / 256)) x0 g2
                rw [← hlx] at hb0
                have one : (∃ j, markJ l pre.length = some j ∧ marksL.getD j [] = [x0]) → tokF 4 (.s 1 x0.toNat) (.i .i64 (.ofNat 0)) p x y ln (lexR f n (c / 256) (p + 1) x y ln) k = .ok r → LexOk P ρ l pre.length ln k r := by
                  rintro ⟨j, hj1, hj2⟩ hk
                  have hn := nextF_mark hlx hl0 hd0 g3 g4 hj1
                  rw [hj2] at hn
                  refine tok_any s e ih (xs := [x0]) hlx hp (by rw [hp]; simp; omega) (by simp) hb0 hn ?_ (by simp only [RV]; rfl) hk
                  simp only [RV]; exact ⟨_, rfl, rfl, by simp [encB]⟩
                cases n with
                | zero =>
                  rcases ite_ok hx8 with ⟨h7, _⟩ | ⟨h7, hx9⟩
                  · exfalso
                    have hb2 : (if Nat.ble (0 + 1) 1 = true then 0 else c / 256 % 256) = 0 := if_pos (by decide)
                    rw [hb2] at h7
                    have := memN_mem h7
                    have hlt := x0.toNat_lt
                    simp only [marks2, List.mem_cons, List.not_mem_nil, or_false] at this
                    omega
                  · refine one ?_ hx9
                    have := one_alone x0 g1
                    rw [hlx, markJ_mid]
                    have e0 : rope A B 0 (c / 256) = [] := rfl
                    rw [e0]
                    cases hj : srch (fun j => (marksL.getD j []).isPrefixOf [x0]) 0 41 with
                    | none => rw [hj] at this; cases this
                    | some j => rw [hj] at this; exact ⟨j, rfl, by simpa using this⟩
                | succ n =>
                  have hb2 : (if Nat.ble (n + 1 + 1) 1 = true then 0 else c / 256 % 256) = c / 256 % 256 := if_neg (by rw [Nat.ble_eq]; omega)
                  rw [hb2] at hx8
                  obtain ⟨y0, tl, e0, g5, g6⟩ := rope_head A B n (c / 256)
                  have hmk := mark_of g1 y0
                  have hmj : markJ l pre.length = srch (fun j => (marksL.getD j []).isPrefixOf [x0, y0]) 0 41 := by
                    rw [hlx, e0, markJ_two]
                  have hjj : ∃ j, markJ l pre.length = some j ∧ marksL.getD j [] = (if twoM.contains (x0, y0) then [x0, y0] else [x0]) := by
                    rw [hmj]
                    unfold markOf at hmk
                    cases hj : srch (fun j => (marksL.getD j []).isPrefixOf [x0, y0]) 0 41 with
                    | none => rw [hj] at hmk; cases hmk
                    | some j => rw [hj] at hmk; exact ⟨j, rfl, by simpa using hmk⟩
                  have hcon : twoM.contains (x0, y0) = memN (x0.toNat + 256 * (c / 256 % 256)) marks2 := by
                    cases hs : isSy (c / 256 % 256) with
                    | false => rw [two_of, g6 hs]
                    | true =>
                      have hdg := g5 hs
                      rw [isDg_eq] at hdg
                      rw [isSy_eq] at hs
                      simp only [decide_eq_true_eq] at hdg hs
                      have no1 : memN (x0.toNat + 256 * y0.toNat) marks2 = false := by
                        cases hq : memN (x0.toNat + 256 * y0.toNat) marks2 with
                        | false => rfl
                        | true =>
                          exfalso
                          have := memN_mem hq
                          have hlt := x0.toNat_lt
                          simp only [marks2, List.mem_cons, List.not_mem_nil, or_false] at this
                          omega
                      have no2 : memN (x0.toNat + 256 * (c / 256 % 256)) marks2 = false := by
                        cases hq : memN (x0.toNat + 256 * (c / 256 % 256)) marks2 with
                        | false => rfl
                        | true =>
                          exfalso
                          have := memN_mem hq
                          have hlt := x0.toNat_lt
                          simp only [marks2, List.mem_cons, List.not_mem_nil, or_false] at this
                          omega
                      rw [two_of, no1, no2]
                  rcases ite_ok hx8 with ⟨h7, hx9⟩ | ⟨h7, hx9⟩
                  · rw [hcon, h7] at hjj
                    obtain ⟨j, hj1, hj2⟩ := hjj
                    have hs : isSy (c / 256 % 256) = false := by
                      cases hs : isSy (c / 256 % 256) with
                      | false => rfl
                      | true =>
                        exfalso
                        have := memN_mem h7
                        have hlt := x0.toNat_lt
                        rw [isSy_eq] at hs
                        simp only [decide_eq_true_eq] at hs
                        simp only [marks2, List.mem_cons, List.not_mem_nil, or_false] at this
                        omega
                    obtain ⟨r3, r4⟩ := rope_one A B n (c / 256) hs
                    rw [r3] at e0
                    injection e0 with e0 _
                    rw [e0] at r3 r4
                    have hn := nextF_mark hlx hl0 hd0 g3 g4 hj1
                    rw [hj2, if_pos rfl] at hn
                    refine tok_any s e ih (xs := [x0, y0]) (n2 := n) (c2 := c / 256 / 256) (by rw [hlx, r3]; rfl) hp (by rw [hp]; show _ = (p + 2) + _ + _; simp; omega) (by simp) hb0 hn ?_ (by simp only [RV]; rfl) hx9
                    simp only [RV]; exact ⟨_, rfl, rfl, by simp [encB]; omega⟩
                  · refine one ?_ hx9
                    rw [hcon, if_neg h7] at hjj
                    exact hjj
end
end
end Go.Ev

/- Part of the proof of CompileForCardSaid. -/
import Derived.Test.YthhgndcpeeifeaaGreatDoorE01
import Derived.Laws.Strings
import Derived.Laws.Concat
import Derived.Laws.BytesString
import Derived.Laws.Tables
import Derived.Laws.Build
set_option linter.unusedVariables false
set_option linter.unusedSimpArgs false
set_option linter.unusedSectionVars false
set_option linter.constructorNameAsVariable false
namespace Go.Ev
open Go Go.RowKit
variable {r : DV}
theorem encB_cons (b : UInt8) (l : List UInt8) : encB (b :: l) = b.toNat + 256 * encB l := rfl
theorem encB_lt : ∀ l : List UInt8, encB l < 256 ^ l.length
  | [] => by simp [encB]
  | b :: l => by
    have h1 := encB_lt l
    have h2 : b.toNat < 256 := b.toNat_lt
    rw [encB_cons, List.length_cons, Nat.pow_succ]
    omega
theorem encB_append : ∀ x y : List UInt8, encB (x ++ y) = encB x + encB y * 256 ^ x.length
  | [], y => by simp [encB]
  | b :: x, y => by
    rw [List.cons_append, encB_cons, encB_cons, encB_append x y, List.length_cons, Nat.pow_succ, Nat.mul_add, Nat.add_assoc]
    congr 2
    rw [← Nat.mul_assoc, Nat.mul_comm 256, Nat.mul_assoc, Nat.mul_comm 256]
theorem encB_inj : ∀ {x y : List UInt8}, x.length = y.length → encB x = encB y → x = y
  | [], [], _, _ => rfl
  | [], _ :: _, h, _ => by simp at h
  | _ :: _, [], h, _ => by simp at h
  | a :: x, b :: y, h, k => by
    rw [encB_cons, encB_cons] at k
    have h2 : a.toNat < 256 := a.toNat_lt
    have h3 : b.toNat < 256 := b.toNat_lt
    have e1 : a.toNat = b.toNat := by omega
    have e2 : encB x = encB y := by omega
    rw [encB_inj (by simpa using h) e2, UInt8.toNat_inj.1 e1]
theorem encB_drop : ∀ (n : Nat) (l : List UInt8), encB (l.drop n) = encB l / 256 ^ n
  | 0, l => by simp
  | n + 1, [] => by simp [encB]
  | n + 1, b :: l => by
    have h2 : b.toNat < 256 := b.toNat_lt
    rw [List.drop_succ_cons, encB_drop n l, encB_cons, Nat.pow_succ, Nat.mul_comm (256 ^ n), ← Nat.div_div_eq_div_mul]
    congr 1
    omega
theorem encB_take : ∀ (n : Nat) (l : List UInt8), encB (l.take n) = encB l % 256 ^ n
  | 0, l => by simp [encB, Nat.mod_one]
  | n + 1, [] => by simp [encB]
  | n + 1, b :: l => by
    have h2 : b.toNat < 256 := b.toNat_lt
    rw [List.take_succ_cons, encB_cons, encB_take n l, encB_cons, Nat.pow_succ, Nat.mul_comm (256 ^ n)]
    have key : (b.toNat + 256 * encB l) % (256 * 256 ^ n) = b.toNat + 256 * (encB l % 256 ^ n) := by
      have hd := Nat.div_add_mod (encB l) (256 ^ n)
      have hlt : encB l % 256 ^ n < 256 ^ n := Nat.mod_lt _ (Nat.pow_pos (by omega))
      have e : b.toNat + 256 * encB l = (b.toNat + 256 * (encB l % 256 ^ n)) + (256 * 256 ^ n) * (encB l / 256 ^ n) := by
        conv => lhs; rw [← hd]
        rw [Nat.mul_add, Nat.mul_assoc]; omega
      rw [e, Nat.add_mul_mod_self_left]
      exact Nat.mod_eq_of_lt (by omega)
    rw [key]
theorem p8 (n : Nat) : (2 : Nat) ^ (8 * n) = 256 ^ n := by rw [Nat.pow_mul]
theorem sByte_eq {l : List UInt8} {i : Nat} (h : i < l.length) : sByte (encB l) i = l[i].toNat := by
  have e : sByte (encB l) i = (encB l >>> (8 * i)) % 256 := rfl
  rw [e, Nat.shiftRight_eq_div_pow, p8, ← encB_drop, List.drop_eq_getElem_cons h, encB_cons]
  have := l[i].toNat_lt
  omega
theorem sSub_eq (l : List UInt8) (lo hi : Nat) : sSub (encB l) lo hi = encB ((l.drop lo).take (hi - lo)) := by
  have e : sSub (encB l) lo hi = (encB l >>> (8 * lo)) % 2 ^ (8 * (hi - lo)) := rfl
  rw [e, Nat.shiftRight_eq_div_pow, p8, p8, encB_take, encB_drop]
section
variable {P : Program} {base N : Nat} {cl : Cl} {o : Oper} {u y c : Operand}
theorem ixS_ok {t : TypeId} (ho : o.op = .index t u y) (hu : okO P u = true) (hy : okO P y = true) (ht : P.underlying t = some .string) : XS P base N cl (xIxS (opA u) (opA y)) o := .pure fun F h k ρ w a fr s hx => by
  obtain ⟨n, c, hb, hx⟩ := asS_ok hx
  obtain ⟨kd, j, hj, hlt, hx⟩ := inI_ok hx
  rw [natF_eq] at hx
  have rc := opA_ok fr s hu
  have ri := opA_ok fr s hy
  rw [hb] at rc; rw [hj] at ri
  simp only [RV] at rc ri
  obtain ⟨str, he, h1, h2⟩ := rc
  have hl : j < str.data.toList.length := by omega
  have hs : j < str.size := by simpa using hl
  refine ⟨_, .int .u8 (sByte c j : Nat), by simp only [RV]; rfl, hx, ?_⟩
  rw [← h2, sByte_eq hl]
  simp [execOp, ho, he, ri, Instr.index, asIntOf, run_under ht, ByteArray.getElem?_lt' str j hs]
  rfl
theorem cat_ok {t t2 : TypeId} (ho : o.op = .binOp .add t u y t2) (hu : okO P u = true) (hy : okO P y = true) : XS P base N cl (xCat (opA u) (opA y)) o := .pure fun F h k ρ w a fr s hx => by
  obtain ⟨n, c, hb, hx⟩ := asS_ok hx
  obtain ⟨m, d, hd, hx⟩ := asS_ok hx
  rw [cif_eq] at hx
  rcases ite_ok hx with ⟨_, hx⟩ | ⟨hsz, hx⟩
  · exact bad_ok hx
  rw [sF_eq] at hx
  have r1 := opA_ok fr s hu
  have r2 := opA_ok fr s hy
  rw [hb] at r1; rw [hd] at r2
  simp only [RV] at r1 r2
  obtain ⟨s1, e1, h1, g1⟩ := r1
  obtain ⟨s2, e2, h2, g2⟩ := r2
  have hsz' : n + m < 1000000000 := Nat.lt_of_not_le fun q => hsz (Nat.ble_eq_true_of_le q)
  have z1 : s1.size = n := by rw [← h1]; rfl
  have z2 : s2.size = m := by rw [← h2]; rfl
  refine ⟨_, .string (s1 ++ s2), ?_, hx, ?_⟩
  · simp only [RV]
    refine ⟨_, rfl, by simp [h1, h2, ByteArray.data_append], ?_⟩
    show encB (s1 ++ s2).data.toList = c + d * 2 ^ (8 * n)
    rw [ByteArray.data_append, Array.toList_append, encB_append, g1, g2, h1, p8]
  · simp [execOp, ho, e1, e2, eqGuard, binOp, run_string_add_sum w s1 s2 (by omega)]
/-! texts with unknown parts -/
theorem strE_ok {v : AV} {k : Nat → Nat → Res} {z : Res} (h : strE v k z = .ok r) : (∃ n c, v = .s n c ∧ k n c = .ok r) ∨ (∀ n c, v ≠ .s n c) ∧ z = .ok r := by
  cases v <;> first | exact .inl ⟨_, _, rfl, h⟩ | exact .inr ⟨fun _ _ => by simp, h⟩
theorem isSy_eq (b : Nat) : isSy b = decide (1 ≤ b ∧ b ≤ 2) := by
  rw [isSy, an_eq, Bool.eq_iff_iff]; simp [Nat.ble_eq]
theorem isDg_eq (b : Nat) : isDg b = decide (48 ≤ b ∧ b ≤ 57) := by
  rw [isDg, an_eq, Bool.eq_iff_iff]; simp [Nat.ble_eq]
theorem rope_head (A B n c : Nat) : ∃ h tl, rope A B (n + 1) c = h :: tl ∧ (isSy (c % 256) = true → isDg h.toNat = true) ∧ (isSy (c % 256) = false → h.toNat = c % 256) := by
  have num : ∀ x, ∃ h tl, dec x = h :: tl ∧ isDg h.toNat = true := fun x => by
    have hne := decN_ne 10 x
    have hdg := decN_dig 10 x
    unfold dec
    cases hd : decN 10 x with
    | nil => exact absurd hd hne
    | cons h tl => exact ⟨h, tl, rfl, by rw [isDg_eq]; simpa using hdg h (by rw [hd]; simp)⟩
  unfold rope
  by_cases h1 : c % 256 = 1
  · obtain ⟨h, tl, e, g⟩ := num A
    rw [if_pos h1, e]
    exact ⟨h, _, rfl, fun _ => g, fun q => by rw [isSy_eq, h1] at q; simp at q⟩
  · rw [if_neg h1]
    by_cases h2 : c % 256 = 2
    · obtain ⟨h, tl, e, g⟩ := num B
      rw [if_pos h2, e]
      exact ⟨h, _, rfl, fun _ => g, fun q => by rw [isSy_eq, h2] at q; simp at q⟩
    · rw [if_neg h2]
      refine ⟨_, _, rfl, fun q => ?_, fun _ => by simp only [UInt8.toNat_ofNat']; omega⟩
      rw [isSy_eq] at q
      have := of_decide_eq_true q
      omega
theorem enc_head {b : UInt8} {l : List UInt8} : encB (b :: l) % 256 = b.toNat := by
  have := b.toNat_lt
  rw [encB_cons]; omega
theorem begSY_ok {A B : Nat} {l : List UInt8} {m d : Nat} {x : Bool} (h : begSY l.length (encB l % 256) m (d % 256) = some x) : x = false ∧ l ≠ rope A B m d := by
  unfold begSY at h
  cases l with
  | nil =>
    cases m with
    | zero => cases h
    | succ m =>
      obtain ⟨q, tl, e, _⟩ := rope_head A B m d
      cases h
      exact ⟨rfl, by rw [e]; simp⟩
  | cons b l =>
    cases m with
    | zero => cases h; exact ⟨rfl, by simp [rope]⟩
    | succ m =>
      obtain ⟨q, tl, e, g1, g2⟩ := rope_head A B m d
      have h' : (cond (isSy (d % 256)) (cond (isDg (encB (b :: l) % 256)) none (some false)) (cond (Nat.beq (encB (b :: l) % 256) (d % 256)) none (some false))) = some x := h
      rw [enc_head] at h'
      rw [e]
      cases hs : isSy (d % 256) with
      | true =>
        rw [hs] at h'
        cases hd : isDg b.toNat with
        | true => rw [hd] at h'; cases h'
        | false =>
          rw [hd] at h'; cases h'
          refine ⟨rfl, fun k => ?_⟩
          have := g1 hs
          injection k with k1 _
          rw [k1, this] at hd; cases hd
      | false =>
        rw [hs] at h'
        cases hd : Nat.beq b.toNat (d % 256) with
        | true => rw [hd] at h'; cases h'
        | false =>
          rw [hd] at h'; cases h'
          refine ⟨rfl, fun k => ?_⟩
          have := g2 hs
          injection k with k1 _
          rw [k1, this] at hd
          simp at hd
theorem begYY_ok {A B n c m d : Nat} {x : Bool} (h : begYY n (c % 256) m (d % 256) = some x) : x = false ∧ rope A B n c ≠ rope A B m d := by
  unfold begYY at h
  cases n with
  | zero => cases h
  | succ n =>
    cases m with
    | zero => cases h
    | succ m =>
      obtain ⟨q, tl, e, g1, g2⟩ := rope_head A B n c
      obtain ⟨q', tl', e', g1', g2'⟩ := rope_head A B m d
      have h' : (cond (isSy (c % 256)) (cond (isSy (d % 256)) none (cond (isDg (d % 256)) none (some false))) (cond (isSy (d % 256)) (cond (isDg (c % 256)) none (some false)) (cond (Nat.beq (c % 256) (d % 256)) none (some false)))) = some x := h
      rw [e, e']
      have fin : q.toNat ≠ q'.toNat → (q :: tl) ≠ (q' :: tl') := fun k k' => by injection k' with k1 _; exact k (by rw [k1])
      cases hs : isSy (c % 256) with
      | true =>
        rw [hs] at h'
        have t1 := g1 hs
        cases hs' : isSy (d % 256) with
        | true => rw [hs'] at h'; cases h'
        | false =>
          rw [hs'] at h'
          have t2 := g2' hs'
          cases hd : isDg (d % 256) with
          | true => rw [hd] at h'; cases h'
          | false =>
            rw [hd] at h'; cases h'
            exact ⟨rfl, fin fun k => by rw [k, t2, hd] at t1; cases t1⟩
      | false =>
        rw [hs] at h'
        have t1 := g2 hs
        cases hs' : isSy (d % 256) with
        | true =>
          rw [hs'] at h'
          have t2 := g1' hs'
          cases hd : isDg (c % 256) with
          | true => rw [hd] at h'; cases h'
          | false =>
            rw [hd] at h'; cases h'
            exact ⟨rfl, fin fun k => by rw [← k, t1, hd] at t2; cases t2⟩
        | false =>
          rw [hs'] at h'
          have t2 := g2' hs'
          cases hd : Nat.beq (c % 256) (d % 256) with
          | true => rw [hd] at h'; cases h'
          | false =>
            rw [hd] at h'; cases h'
            exact ⟨rfl, fin fun k => by rw [t1, t2] at k; rw [k] at hd; simp at hd⟩
theorem RV_odd {ρ : Rn} {h : Hp} {w : World} (s : Sim P base ρ h w) : ∃ A B M, A < 2147483648 ∧ B < 2147483648 ∧ ρ.sy = den A B M ∧ ∀ (y : Nat) (v : Value), RV P ρ (.y y) v → yOdd y = true → v = .string ⟨(rope A B (yLen y) (yCod y)).toArray⟩ := by
  obtain ⟨A, B, M, hA, hB, e⟩ := s.kn
  refine ⟨A, B, M, hA, hB, e, fun y v rv ho => ?_⟩
  simp only [RV] at rv
  have h1 : y % 2 = 1 := by
    have : Nat.mod y 2 = 1 := by simpa [yOdd] using ho
    exact this
  rw [rv.1, e, den, if_pos h1]; rfl
/-- Two texts, compared. -/
theorem eqY_ok {ρ : Rn} {h : Hp} {w : World} (s : Sim P base ρ h w) {x z : AV} {x' z' : Value} (rx : RV P ρ x x') (rz : RV P ρ z z') {b : Bool} (hb : eqY x z = some b) :
    ∃ s1 s2 : ByteArray, x' = .string s1 ∧ z' = .string s2 ∧ b = (s1.toList == s2.toList) := by
  obtain ⟨A, B, M, hA, hB, e, odd⟩ := RV_odd s
  have eqb : ∀ (l l' : List UInt8) (b : Bool), b = false ∧ l ≠ l' → b = ((⟨l.toArray⟩ : ByteArray).toList == (⟨l'.toArray⟩ : ByteArray).toList) := fun l l' b ⟨h1, h2⟩ => by
    rw [h1, ByteArray.toList_eq, ByteArray.toList_eq]; symm; simpa using h2
  have back : ∀ s1 : ByteArray, s1 = ⟨s1.data.toList.toArray⟩ := fun s1 => by simp
  unfold eqY at hb
  split at hb
  · rename_i p q
    cases hp : yOdd p with
    | false => rw [hp, an_eq] at hb; cases hb
    | true =>
      cases hq : yOdd q with
      | false => rw [hp, hq, an_eq] at hb; cases hb
      | true =>
        rw [hp, hq, an_eq] at hb
        have hb : cond (Nat.beq p q) (some true) (begYY (yLen p) (yCod p % 256) (yLen q) (yCod q % 256)) = some b := hb
        have e1 := odd p x' rx hp
        cases hpq : Nat.beq p q with
        | true =>
          rw [hpq] at hb; cases hb
          have : p = q := by simpa using hpq
          subst this
          exact ⟨_, _, e1, odd p z' rz hp, by simp⟩
        | false =>
          rw [hpq] at hb
          exact ⟨_, _, e1, odd q z' rz hq, eqb _ _ _ (begYY_ok hb)⟩
  · rename_i n c q
    cases hq : yOdd q with
    | false => rw [hq] at hb; cases hb
    | true =>
      rw [hq] at hb
      simp only [RV] at rx
      obtain ⟨s1, r1, r2, r3⟩ := rx
      have hb' : begSY s1.data.toList.length (encB s1.data.toList % 256) (yLen q) (yCod q % 256) = some b := by rw [r2, r3]; exact hb
      refine ⟨s1, _, r1, odd q z' rz hq, ?_⟩
      rw [back s1]
      exact eqb _ _ _ (begSY_ok hb')
  · rename_i p n c
    cases hp : yOdd p with
    | false => rw [hp] at hb; cases hb
    | true =>
      rw [hp] at hb
      simp only [RV] at rz
      obtain ⟨s2, r1, r2, r3⟩ := rz
      have hb' : begSY s2.data.toList.length (encB s2.data.toList % 256) (yLen p) (yCod p % 256) = some b := by rw [r2, r3]; exact hb
      refine ⟨_, s2, odd p x' rx hp, r1, ?_⟩
      rw [back s2]
      obtain ⟨q1, q2⟩ := begSY_ok (A := A) (B := B) hb'
      exact eqb _ _ _ ⟨q1, Ne.symm q2⟩
  · cases hb
theorem obX0_ok {x y : AV} {ob : Option Bool} {k : Bool → Res} (h : obX0 x y ob k = .ok r) : ∃ b, ob = some b ∧ k b = .ok r := by
  cases ob with
  | none => exact bad_ok h
  | some b => exact ⟨b, rfl, h⟩
theorem seq_ok {t t2 : TypeId} {neg : Bool} (ho : o.op = .binOp (if neg then .neq else .eql) t u y t2) (hu : okO P u = true) (hy : okO P y = true) : XS P base N cl (xSeq neg (opA u) (opA y)) o := .pure fun F h k ρ w a fr s hx => by
  have r1 := opA_ok fr s hu
  have r2 := opA_ok fr s hy
  have fin : ∀ {r : DV} (s1 s2 : ByteArray) (b : Bool), a.eval u = .string s1 → a.eval y = .string s2 → b = (s1.toList == s2.toList) → k (.b (cif neg (nt b) b)) h = .ok r →
      ∃ v v', RV P ρ v v' ∧ k v h = .ok r ∧ (execOp a.eval o).run P w = .ok (.value v') w := by
    intro r s1 s2 b e1 e2 eb hk
    refine ⟨_, .bool (cif neg (nt b) b), by simp only [RV], hk, ?_⟩
    rw [eb, cif_eq, nt_eq]
    cases neg <;> simp [execOp, ho, e1, e2, eqGuard, binOp, Op.stringOp]
  have slow : ∀ {r : DV}, (obX0 (opA u F) (opA y F) (eqY (opA u F) (opA y F)) fun b => bF (cif neg (nt b) b) fun v => k v h) = .ok r →
      ∃ v v', RV P ρ v v' ∧ k v h = .ok r ∧ (execOp a.eval o).run P w = .ok (.value v') w := by
    intro r hx
    obtain ⟨b, hb, hx⟩ := obX0_ok hx
    rw [bF_eq] at hx
    obtain ⟨s1, s2, e1, e2, eb⟩ := eqY_ok s r1 r2 hb
    exact fin s1 s2 b e1 e2 eb hx
  rcases strE_ok hx with ⟨n, c, hb, hx⟩ | ⟨_, hx⟩
  · rcases strE_ok hx with ⟨m, d, hd, hx⟩ | ⟨_, hx⟩
    · rw [bF_eq] at hx
      rw [hb] at r1; rw [hd] at r2
      simp only [RV] at r1 r2
      obtain ⟨s1, e1, h1, g1⟩ := r1
      obtain ⟨s2, e2, h2, g2⟩ := r2
      refine fin s1 s2 _ e1 e2 ?_ hx
      rw [an_eq, ByteArray.toList_eq, ByteArray.toList_eq, Bool.eq_iff_iff]
      simp only [Bool.and_eq_true, Nat.beq_eq, beq_iff_eq]
      constructor
      · rintro ⟨q1, q2⟩
        exact encB_inj (by rw [h1, h2]; exact q1) (by rw [g1, g2]; exact q2)
      · intro q
        exact ⟨by rw [← h1, ← h2, q], by rw [← g1, ← g2, q]⟩
    · exact slow hx
  · exact slow hx
theorem rope_len (A B : Nat) : ∀ n c, (rope A B n c).length + (cntF 1 n c + cntF 2 n c) = n + cntF 1 n c * (dec A).length + cntF 2 n c * (dec B).length ∧ cntF 1 n c + cntF 2 n c ≤ n
  | 0, c => by
    have e0 : ∀ b, cntF b 0 c = 0 := fun _ => rfl
    simp [rope, e0]
  | n + 1, c => by
    have ih := rope_len A B n (c / 256)
    have e : ∀ b, cntF b (n + 1) c = if c % 256 = b then cntF b n (c / 256) + 1 else cntF b n (c / 256) := fun b => by
      show cif (Nat.beq (Nat.mod c 256) b) (Nat.succ (cntF b n (Nat.div c 256))) (cntF b n (Nat.div c 256)) = _
      rw [cif_eq]
      have : Nat.mod c 256 = c % 256 := rfl
      simp only [this, Nat.beq_eq]
      rfl
    rw [e 1, e 2, rope, List.length_append]
    by_cases h1 : c % 256 = 1
    · simp only [h1, if_true, if_false, Nat.add_mul]
      simp
      omega
    · by_cases h2 : c % 256 = 2
      · simp only [h2, if_true, if_false, Nat.add_mul]
        simp
        omega
      · simp only [h1, h2, if_false, List.length_cons, List.length_nil]
        omega
theorem posF_ok {ρ : Rn} {h : Hp} {w : World} (s : Sim P base ρ h w) {A B : Nat} {M : Int} (e : ρ.sy = den A B M) {p x z : Nat} {k : AV → Res} (hx : posF p x z k = .ok r) :
    ∃ v, k v = .ok r ∧ RV P ρ v (.int .i64 (p + x * (dec A).length + z * (dec B).length : Nat)) := by
  unfold posF at hx
  rw [cif_eq, an_eq] at hx
  rcases ite_ok hx with ⟨h0, hx⟩ | ⟨_, hx⟩
  · simp only [Bool.and_eq_true, Nat.beq_eq] at h0
    obtain ⟨rfl, rfl⟩ := h0
    rw [natF_eq] at hx
    exact ⟨_, hx, by simp only [RV]; simp⟩
  · rw [cif_eq, an_eq] at hx
    rcases ite_ok hx with ⟨h0, hx⟩ | ⟨_, hx⟩
    · simp only [Bool.and_eq_true, Nat.ble_eq] at h0
      rw [natF_eq] at hx
      refine ⟨_, hx, ?_⟩
      simp only [RV]
      refine ⟨?_, trivial⟩
      have q4 : Nat.mul 2 (Nat.add 8 (Nat.add (Nat.mul 4 (Nat.add (Nat.mul 4 p) x)) z)) = 2 * (8 + (4 * (4 * p + x) + z)) := rfl
      rw [q4, e, den, if_neg (by omega), if_neg (by omega), if_neg (by omega), if_neg (by omega)]
      have e1 : 2 * (8 + (4 * (4 * p + x) + z)) / 2 - 8 = 4 * (4 * p + x) + z := by omega
      have e2 : (4 * (4 * p + x) + z) / 16 = p := by omega
      have e3 : (4 * (4 * p + x) + z) / 4 % 4 = x := by omega
      have e4 : (4 * (4 * p + x) + z) % 4 = z := by omega
      rw [e1, e2, e3, e4]
    · exact bad_ok hx
theorem lenS_ok {t : TypeId} {cc : Call} (ho : o.op = .call cc) (hc : cc.callee = .builtin .len) (ha : cc.args = #[u]) (hu : okO P u = true) (ht : (cc.argTypes[0]?).bind P.underlying = some .string) : XS P base N cl (xLenS (opA u)) o := .pure fun F h k ρ w a fr s hx => by
  have rc := opA_ok fr s hu
  obtain ⟨t0, ht0, hut⟩ := Option.bind_eq_some_iff.1 ht
  rcases strE_ok hx with ⟨n, c, hb, hx⟩ | ⟨_, hx⟩
  · rw [hb] at rc; simp only [RV] at rc
    obtain ⟨str, he, h1, h2⟩ := rc
    have z1 : str.size = n := by rw [← h1]; rfl
    exact ⟨_, .int .i64 (n : Nat), by simp only [RV]; rfl, hx, by simp [execOp, ho, resolve, hc, ha, invoke, builtin, Builtin.len_, ht0, run_under hut, he, goInt, z1]⟩
  · cases hu' : opA u F with
    | y q =>
      simp only [hu', cif_eq, natF_eq] at hx
      rcases ite_ok hx with ⟨hq, hx⟩ | ⟨_, hx⟩
      · obtain ⟨A, B, M, _, _, e, odd⟩ := RV_odd s
        rw [hu'] at rc
        have he := odd q _ rc hq
        obtain ⟨v, hk, rv⟩ := posF_ok s e hx
        refine ⟨v, _, rv, hk, ?_⟩
        have hl := rope_len A B (yLen q) (yCod q)
        have z1 : (⟨(rope A B (yLen q) (yCod q)).toArray⟩ : ByteArray).size = Nat.sub (yLen q) (Nat.add (cntF 1 (yLen q) (yCod q)) (cntF 2 (yLen q) (yCod q))) + cntF 1 (yLen q) (yCod q) * (dec A).length + cntF 2 (yLen q) (yCod q) * (dec B).length := by
          have : (⟨(rope A B (yLen q) (yCod q)).toArray⟩ : ByteArray).size = (rope A B (yLen q) (yCod q)).length := by simp [ByteArray.size]
          rw [this]
          have q3 : ∀ a b, Nat.sub a b = a - b := fun _ _ => rfl
          have q4 : ∀ a b, Nat.add a b = a + b := fun _ _ => rfl
          rw [q3, q4]; omega
        simp [execOp, ho, resolve, hc, ha, invoke, builtin, Builtin.len_, ht0, run_under hut, he, goInt, z1]
      · exact bad_ok hx
    | _ => simp only [hu'] at hx; exact bad_ok hx

def HiOk (F : Fr) (d n m : Nat) : Option Operand → Prop
  | none => m = d
  | some x => ∃ kd, opA x F = .i kd (m : Nat) ∧ m ≤ n
def LoOk (F : Fr) (m : Nat) : Option Operand → Prop
  | none => m = 0
  | some x => ∃ kd, opA x F = .i kd (m : Nat)
/-- A bound that is given, or the length. -/
theorem hiB_ok {hi : Option Operand} {F : Fr} {d n : Nat} {k : Nat → Res} (h : hiB (hi.map opA) F d n k = .ok r) : ∃ m, HiOk F d n m hi ∧ k m = .ok r := by
  cases hi with
  | none => exact ⟨d, rfl, h⟩
  | some x =>
    obtain ⟨kd, m, h1, h2, h3⟩ := inI_ok (show inI (opA x F) (Nat.succ n) k = .ok r from h)
    exact ⟨m, ⟨kd, h1, Nat.le_of_lt_succ h2⟩, h3⟩
theorem loB_ok {lo : Option Operand} {F : Fr} {n : Nat} {k : Nat → Res} (h : loB (lo.map opA) F n k = .ok r) : ∃ m, LoOk F m lo ∧ m ≤ n ∧ k m = .ok r := by
  cases lo with
  | none => exact ⟨0, rfl, Nat.zero_le _, h⟩
  | some x =>
    obtain ⟨kd, m, h1, h2, h3⟩ := inI_ok (show inI (opA x F) (Nat.succ n) k = .ok r from h)
    exact ⟨m, ⟨kd, h1⟩, Nat.le_of_lt_succ h2, h3⟩
def okOO (P : Program) : Option Operand → Bool
  | none => true
  | some x => okO P x
theorem bounds_run {isSlice : Bool} {len cap : Nat} {lo hi : Option Operand} {F : Fr} {a : Act} {ρ : Rn} {h : Hp} {w : World} (fr : FR P ρ N F a) (s : Sim P base ρ h w) (hlo : okOO P lo = true) (hhi : okOO P hi = true)
    {l m n : Nat} (hn : n ≤ cap) (hm : HiOk F len n m hi) (hl : LoOk F l lo) (hlm : l ≤ m) (hc : len ≤ cap) :
    (Instr.sliceBounds isSlice len cap (lo.map a.eval) (hi.map a.eval) none).run P w = .ok (l, m, cap) w := by
  have e0 : ∀ x : Nat, (0 : Int) ≤ (x : Int) := fun x => by omega
  have eh : (match hi.map a.eval with
      | some v => Instr.sliceBound v cap (if isSlice then .sliceAcap else .sliceAlen)
      | none => Pure.pure len).run P w = .ok m w := by
    cases hi with
    | none => simp [show m = len from hm]
    | some x =>
      obtain ⟨kd, h1, h2⟩ := hm
      have r := opA_ok fr s (show okO P x = true from hhi)
      rw [h1] at r; simp only [RV] at r
      simp [r, Instr.sliceBound, asIntOf, e0, show m ≤ cap by omega]
  have el : (match lo.map a.eval with
      | some v => Instr.sliceBound v m .sliceB
      | none => Pure.pure 0).run P w = .ok l w := by
    cases lo with
    | none => simp [show l = 0 from hl]
    | some x =>
      obtain ⟨kd, h1⟩ := hl
      have r := opA_ok fr s (show okO P x = true from hlo)
      rw [h1] at r; simp only [RV] at r
      simp [r, Instr.sliceBound, asIntOf, e0, hlm]
  unfold Instr.sliceBounds
  cases hi <;> cases lo <;> simp at eh el ⊢ <;> simp [eh, el]
theorem slS_ok {t : TypeId} {lo hi : Option Operand} (ho : o.op = .slice t u lo hi none) (hu : okO P u = true) (hlo : okOO P lo = true) (hhi : okOO P hi = true) (ht : P.underlying t = some .string) :
    XS P base N cl (xSlS (opA u) (lo.map opA) (hi.map opA)) o := .pure fun F h k ρ w a fr s hx => by
  obtain ⟨n, c, hb, hx⟩ := asS_ok hx
  obtain ⟨m, hm, hx⟩ := hiB_ok hx
  obtain ⟨l, hl, hlm, hx⟩ := loB_ok hx
  rw [sF_eq] at hx
  have rc := opA_ok fr s hu
  rw [hb] at rc; simp only [RV] at rc
  obtain ⟨str, he, h1, h2⟩ := rc
  have z1 : str.size = n := by rw [← h1]; rfl
  have hmn : m ≤ n := by
    cases hi with
    | none => exact Nat.le_of_eq hm
    | some x => obtain ⟨_, _, q⟩ := hm; exact q
  have hb := bounds_run (isSlice := false) (len := n) (cap := n) (w := w) fr s hlo hhi (Nat.le_refl n) hm hl hlm (Nat.le_refl n)
  refine ⟨_, .string (str.extract l m), ?_, hx, ?_⟩
  · simp only [RV]
    have e : (str.extract l m).data.toList = (str.data.toList.drop l).take (m - l) := by
      rw [ByteArray.data_extract, Array.toList_extract]
    refine ⟨_, rfl, ?_, ?_⟩
    · rw [e, List.length_take, List.length_drop, h1]; show min (m - l) (n - l) = m - l; omega
    · rw [e, ← h2, sSub_eq]
  · simp [execOp, ho, he, Instr.sliceAt, Instr.slice, run_under ht, z1, hb]
end
end Go.Ev
namespace Go.Ev
open Go Go.RowKit
variable {r : DV}
section
variable {P : Program} {base N : Nat} {cl : Cl} {o : Oper} {u y c : Operand}
theorem slL_ok {t e : TypeId} {i : TypeInfo} {lo hi : Option Operand} (ho : o.op = .slice t u lo hi none) (hu : okO P u = true) (hlo : okOO P lo = true) (hhi : okOO P hi = true) (ht : P.underlying t = some (.slice e)) (hi' : P.info? e = some i) :
    XS P base N cl (xSlL e i.size (opA u) (lo.map opA) (hi.map opA)) o := .pure fun F h k ρ w a fr s hx => by
  have rc := opA_ok fr s hu
  have hcs : P.cellsOf e = i.size := by simp [Program.cellsOf, hi']
  rcases asSl_ok hx with ⟨hb, hx⟩ | ⟨b, n, len, hb, hx⟩
  · rw [hb] at rc; simp only [RV] at rc
    obtain ⟨m, hm, hx⟩ := hiB_ok hx
    obtain ⟨l, hl, hlm, hx⟩ := loB_ok hx
    have hm0 : m = 0 := by
      cases hi with
      | none => exact hm
      | some x => obtain ⟨_, _, q⟩ := hm; omega
    have hb := bounds_run (isSlice := true) (len := 0) (cap := 0) (w := w) fr s hlo hhi (Nat.le_refl 0) hm hl hlm (Nat.le_refl 0)
    exact ⟨_, .slice none 0 0, by simp only [RV], hx, by simp [execOp, ho, rc, Instr.sliceAt, Instr.slice, run_under ht, run_size hi', hb, hm0]⟩
  · rw [hb] at rc; simp only [RV] at rc
    obtain ⟨q, ad, cap, hq, he, hcap, hd⟩ := rc
    obtain ⟨own, e1, ex, ct, hc, hx⟩ := cellsAt_ok hx
    obtain ⟨k1, k2, _⟩ := s.cellsR hq hc
    rw [cif_eq] at hx
    rcases ite_ok hx with ⟨he1, hz⟩ | ⟨_, hz⟩
    · rw [Nat.beq_eq] at he1
      subst he1
      obtain ⟨m, hm, hz⟩ := hiB_ok hz
      obtain ⟨l, hl, hlm, hz⟩ := loB_ok hz
      simp only [natF_eq] at hz
      rw [k1, k2, hcs] at hd
      have hmc : m ≤ cap := by
        cases hi with
        | none => exact Nat.le_trans (Nat.le_of_eq hm) hcap
        | some x =>
          obtain ⟨_, _, g⟩ := hm
          have g' : m ≤ (ex - n) / i.size := g
          rcases hd with ⟨_, _, h3⟩ | ⟨h0, h1, h3⟩
          · rcases Nat.eq_zero_or_pos i.size with z | z
            · rw [z, Nat.div_zero] at g'; omega
            · have h4 : (ex - n) / i.size ≤ cap := by
                rw [Nat.div_le_iff_le_mul_add_pred z]; rw [Nat.mul_comm] at h3; omega
              omega
          · have : (ex - n) = 0 := by omega
            rw [this, Nat.zero_div] at g'; omega
      have hb := bounds_run (isSlice := true) (len := len) (cap := cap) (n := cap) (w := w) fr s hlo hhi (Nat.le_refl cap) (m := m)
        (by cases hi with
          | none => exact hm
          | some x => obtain ⟨kd, g1, _⟩ := hm; exact ⟨kd, g1, hmc⟩) hl hlm hcap
      refine ⟨_, .slice (some (if cap = l then ad else ad.add (l * i.size))) (m - l) (cap - l), ?_, hz, ?_⟩
      · simp only [RV]
        refine ⟨q, _, _, hq, rfl, by show m - l ≤ cap - l; omega, ?_⟩
        rw [k1, k2, hcs]
        have e2 : ∀ x y : Nat, Nat.add x y = x + y := fun _ _ => rfl
        have e3 : ∀ x y : Nat, Nat.mul x y = x * y := fun _ _ => rfl
        have e4 : ∀ x y : Nat, Nat.sub x y = x - y := fun _ _ => rfl
        simp only [e2, e3, e4]
        rcases hd with ⟨had, h1, h2⟩ | ⟨h0, h1, h2⟩
        · by_cases hcl : cap = l
          · right
            refine ⟨by omega, by omega, ?_⟩
            rw [← hcl]; exact h2
          · left
            have e5 : (cap - l) * i.size = cap * i.size - l * i.size := Nat.sub_mul ..
            have e6 : l * i.size ≤ cap * i.size := Nat.mul_le_mul_right _ (by omega)
            exact ⟨by rw [if_neg hcl, had, add_eq, Nat.add_assoc], by omega, by omega⟩
        · right
          have hl0 : l = 0 := by omega
          subst hl0
          exact ⟨by omega, by omega, by omega⟩
      · simp [execOp, ho, he, Instr.sliceAt, Instr.slice, run_under ht, run_size hi', hb]
        split <;> rfl
    · exact bad_ok hz
/-- A new row. -/
theorem newC_ok {e : TypeId} {l : List AV} {h : Hp} {k : Id → Hp → Res} (hx : newC e l h k = .ok r) : l.length ≤ 4096 ∧ h.nx < 32768 ∧ k (idOf h.nx) ⟨hput (idOf h.nx) (.c true e l.length (CT.lay l 0 CT.z)) h.t, Nat.succ h.nx⟩ = .ok r := by
  unfold newC at hx
  rw [natF_eq, lenL_eq, cif_eq] at hx
  rcases ite_ok hx with ⟨h1, hx⟩ | ⟨_, hx⟩
  · obtain ⟨ht, hn⟩ := h
    have hx' : cif (Nat.ble 32768 hn) (Res.bad 9 .u) (idF (idOf hn) fun i => k i ⟨hput i (.c true e l.length (CT.lay l 0 CT.z)) ht, Nat.succ hn⟩) = .ok _ := hx
    rw [cif_eq, idF_eq] at hx'
    rcases ite_ok hx' with ⟨_, hx'⟩ | ⟨h2, hx'⟩
    · exact bad_ok hx'
    · exact ⟨by simpa [Nat.ble_eq] using h1, Nat.lt_of_not_le fun q => h2 (Nat.ble_eq_true_of_le q), hx'⟩
  · exact bad_ok hx
theorem lay_new (l : List AV) (h : l.length ≤ 4096) : l.length ≤ (CT.lay l 0 CT.z).room ∧ ∀ p, p < l.length → (CT.lay l 0 CT.z).get p = l.getD p .u := by
  obtain ⟨h1, h2, h3⟩ := CT.lay_ok l 0 CT.z (Nat.zero_le _) (by omega)
  exact ⟨by omega, fun p hp => by rw [h3 p (by omega) (.inr (Nat.zero_le _)), if_pos (Nat.zero_le _), Nat.sub_zero]⟩
/-- A new row holds a list's values. -/
theorem new_ok {ρ : Rn} {h : Hp} {w : World} (s : Sim P base ρ h w) (hn : h.nx < 32768) {e : TypeId} {l : List AV} {vs : Array Value} (rl : RL P ρ l vs.toList) (h4 : l.length ≤ 4096) :
    ∃ ρ', Stp P base ρ h w ρ' ⟨hput (idOf h.nx) (.c true e l.length (CT.lay l 0 CT.z)) h.t, Nat.succ h.nx⟩ (w.alloc (.cells vs e)) ∧ ρ'.blk (idOf h.nx) = some w.heap.size ∧
      ρ'.csz (idOf h.nx) = l.length ∧ ρ'.ext (idOf h.nx) = l.length ∧ ρ'.ty (idOf h.nx) = e := by
  have hlen : l.length = vs.size := by simpa using rl.length
  obtain ⟨g1, g2⟩ := lay_new l h4
  obtain ⟨ρ', st, e1, e2, e3, e4⟩ := s.row hn (lo := 0) (hi := 0) (w' := w.alloc (.cells vs e)) (vs := vs) (e := e) (l := l) (n := l.length) rfl rfl (by rw [List.take_of_length_le (by simp [hlen])]; exact rl) (by omega) (fun j _ => by omega) g1 g2
  exact ⟨ρ', st, e1, by omega, e3, e4⟩
theorem cellsOf_valA {ρ : Rn} (v : Value) : RL P ρ (cellsOf (valA v)) v.cells.toList := by
  have key : ∀ v : Value, v.oneCell' = true → RL P ρ (cellsOf (trS v)) [v] := fun v hv => by
    have rv : RV P ρ (trS v) v := RV_trS v
    have hc : cellsOf (trS v) = [trS v] := by
      cases hh : trS v <;> first
        | rfl
        | (rw [hh] at rv; simp only [RV] at rv; obtain ⟨c, rfl, _⟩ := rv; cases hv)
    rw [hc]; simp only [RL]; exact ⟨_, _, rfl, rv, rfl⟩
  by_cases hv : v.oneCell' = true
  · have e1 : valA v = trS v := by cases v <;> first | rfl | cases hv
    rw [e1, cells_one hv]; exact key v hv
  · cases v with
    | agg cs => exact RL_map_trS _
    | tuple cs => show RL P ρ [_] [_]; simp only [RL, RV]; exact ⟨_, _, rfl, ⟨_, rfl, RL_map_trS _⟩, rfl⟩
    | _ => exact absurd rfl hv
theorem al_ok {e : TypeId} {i : TypeInfo} {v : Value} (ho : o.op = .alloc e) (hi : P.info? e = some i) (hz : i.zero = some v) : XS P base N cl (xAl e (cellsOf (valA v))) o := .of fun F h k ρ w a fr s hx => by
  obtain ⟨h1, h2, hx⟩ := newC_ok hx
  obtain ⟨ρ', st, e1, _⟩ := new_ok s h2 (e := e) (cellsOf_valA (P := P) (ρ := ρ) v) h1
  exact ⟨ρ', _, _, .pointer (some ⟨w.heap.size, 0, none⟩), _, st, by simp only [RV]; exact ⟨_, e1, by rw [st.off0 e1]⟩, hx, by simp [execOp, ho, Instr.alloc, run_zero hi hz, newVar, newRow]⟩
theorem nU_ok {v : AV} (h : nU v = true) : v ≠ .u := fun e => by subst e; exact absurd (show (false : Bool) = true from h) Bool.false_ne_true
theorem box_ok {e : TypeId} (ho : o.op = .box e u) (hu : okO P u = true) : XS P base N cl (xBox e (opA u)) o := .of fun F h k ρ w a fr s hx => by
  have hx' : cif (nU (opA u F)) _ _ = Res.ok _ := hx
  rw [cif_eq] at hx'
  rcases ite_ok hx' with ⟨hu', hx⟩ | ⟨_, hx⟩
  · obtain ⟨h1, h2, hx⟩ := newC_ok hx
    obtain ⟨ρ', st, e1, _⟩ := new_ok s h2 (e := e) (cellsOf_ok (opA_ok fr s hu) (nU_ok hu')) h1
    exact ⟨ρ', _, _, .pointer (some ⟨w.heap.size, 0, none⟩), _, st, by simp only [RV]; exact ⟨_, e1, by rw [st.off0 e1]⟩, hx, by simp [execOp, ho, Instr.box, newVar, newRow]⟩
  · exact bad_ok hx
end
end Go.Ev
namespace Go.Ev
open Go Go.RowKit
variable {r : DV}
theorem overL_ok : ∀ (v l : List AV), v.length ≤ l.length → (overL v l).length = l.length ∧ ∀ j, (overL v l).getD j .u = if j < v.length then v.getD j .u else l.getD j .u
  | [], l, _ => ⟨rfl, fun j => by rw [if_neg (by simp)]; rfl⟩
  | x :: v, [], h => by simp at h
  | x :: v, y :: l, h => by
    obtain ⟨h1, h2⟩ := overL_ok v l (by simpa using h)
    refine ⟨congrArg Nat.succ h1, fun j => ?_⟩
    show (x :: overL v l).getD j .u = _
    cases j with
    | zero => simp
    | succ j => simpa using h2 j
theorem fillL_ok (v : List AV) : ∀ (off : Nat) (l : List AV), off + v.length ≤ l.length → (fillL v off l).length = l.length ∧ ∀ j, (fillL v off l).getD j .u = if off ≤ j ∧ j < off + v.length then v.getD (j - off) .u else l.getD j .u
  | 0, l, h => by
    obtain ⟨h1, h2⟩ := overL_ok v l (by omega)
    refine ⟨h1, fun j => (h2 j).trans ?_⟩
    by_cases q : j < v.length
    · rw [if_pos q, if_pos (by omega), Nat.sub_zero]
    · rw [if_neg q, if_neg (by omega)]
  | off + 1, [], h => by simp at h
  | off + 1, y :: l, h => by
    obtain ⟨h1, h2⟩ := fillL_ok v off l (by simp only [List.length_cons] at h; omega)
    refine ⟨congrArg Nat.succ h1, fun j => ?_⟩
    show (y :: fillL v off l).getD j .u = _
    cases j with
    | zero => rw [if_neg (by omega)]; rfl
    | succ j =>
      rw [List.getD_cons_succ, h2 j, List.getD_cons_succ]
      by_cases q : off ≤ j ∧ j < off + v.length
      · rw [if_pos q, if_pos (by omega), show j + 1 - (off + 1) = j - off by omega]
      · rw [if_neg q, if_neg (by omega)]
theorem foldl_set (off : Nat) : ∀ (vs : List Value) (i : Nat) (cs : Array Value), off + i + vs.length ≤ cs.size →
    ((vs.zipIdx i).foldl (fun cs (c, j) => cs.setIfInBounds (off + j) c) cs).size = cs.size ∧
    ∀ j, ((vs.zipIdx i).foldl (fun cs (c, j) => cs.setIfInBounds (off + j) c) cs)[j]? = if off + i ≤ j ∧ j < off + i + vs.length then vs[j - (off + i)]? else cs[j]?
  | [], i, cs, _ => ⟨rfl, fun j => by rw [if_neg (by simp only [List.length_nil]; omega)]; rfl⟩
  | v :: r, i, cs, h => by
    simp only [List.length_cons] at h
    obtain ⟨h1, h2⟩ := foldl_set off r (i + 1) (cs.setIfInBounds (off + i) v) (by simp; omega)
    refine ⟨by simpa [List.zipIdx_cons] using h1, fun j => ?_⟩
    rw [List.zipIdx_cons, List.foldl_cons, h2 j]
    simp only [List.length_cons]
    by_cases q1 : off + (i + 1) ≤ j ∧ j < off + (i + 1) + r.length
    · rw [if_pos q1, if_pos (by omega), show j - (off + i) = (j - (off + (i + 1))) + 1 by omega, List.getElem?_cons_succ]
    · rw [if_neg q1]
      by_cases q2 : j = off + i
      · subst q2
        rw [if_pos (by omega), Nat.sub_self]
        simp [show off + i < cs.size by omega]
      · rw [if_neg (by omega), Array.getElem?_setIfInBounds_ne (by omega)]
section
variable {P : Program} {base N : Nat} {cl : Cl} {o : Oper} {u y c : Operand}
/-- Parts laid into a row, as the model lays them. -/
theorem fill_ok {ρ : Rn} {F : Fr} {h : Hp} {w : World} {a : Act} (fr : FR P ρ N F a) (s : Sim P base ρ h w) (place : Nat → Option (Nat × Nat)) :
    ∀ (ps : List (Nat × Operand)) (l : List AV) (cs : Array Value) (k : List AV → Res), (∀ p ∈ ps, okO P p.2 = true) → RL P ρ l cs.toList → 
      fillAll F (ps.map fun p => match place p.1 with
        | some (i, sz) => ⟨i, sz, opA p.2⟩
        | none => ⟨0, 1000000, opA p.2⟩) l k = .ok r → l.length < 1000000 →
      ∃ l' cs', Instr.fill place cs (ps.map fun p => (p.1, a.eval p.2)) = some cs' ∧ RL P ρ l' cs'.toList ∧ l'.length = l.length ∧ k l' = .ok r
  | [], l, cs, k, _, rl, hk, _ => ⟨l, cs, rfl, rl, rfl, hk⟩
  | p :: r, l, cs, k, hp, rl, hk, h6 => by
    have hlen : l.length = cs.size := by simpa using rl.length
    have rv := opA_ok fr s (hp p (by simp))
    cases hpl : place p.1 with
    | none =>
      simp only [List.map_cons, hpl] at hk
      have hk' : natF (lenL (cellsOf (opA p.2 F))) (fun n => cif (an (nU (opA p.2 F)) (an (Nat.beq n 1000000) (Nat.ble (Nat.add 0 n) (lenL l)))) _ (Ev.bad 17)) = .ok _ := hk
      rw [natF_eq, cif_eq] at hk'
      rcases ite_ok hk' with ⟨h1, _⟩ | ⟨_, h1⟩
      · simp only [an_eq, Bool.and_eq_true, Nat.beq_eq, Nat.ble_eq, lenL_eq] at h1
        obtain ⟨_, h2, h3⟩ := h1
        have h3' : 0 + (cellsOf (opA p.2 F)).length ≤ l.length := h3
        omega
      · exact bad_ok h1
    | some x =>
      obtain ⟨off, sz⟩ := x
      simp only [List.map_cons, hpl] at hk
      have hk' : natF (lenL (cellsOf (opA p.2 F))) (fun n => cif (an (nU (opA p.2 F)) (an (Nat.beq n sz) (Nat.ble (Nat.add off n) (lenL l))))
          (fillAll F (r.map fun p => match place p.1 with
            | some (i, sz) => ⟨i, sz, opA p.2⟩
            | none => ⟨0, 1000000, opA p.2⟩) (fillL (cellsOf (opA p.2 F)) off l) k) (Ev.bad 17)) = .ok _ := hk
      rw [natF_eq, cif_eq] at hk'
      rcases ite_ok hk' with ⟨h1, hk2⟩ | ⟨_, h1⟩
      · simp only [an_eq, Bool.and_eq_true, Nat.beq_eq, Nat.ble_eq, lenL_eq] at h1
        obtain ⟨hu, h2, h3⟩ := h1
        have h3' : off + (cellsOf (opA p.2 F)).length ≤ l.length := h3
        have rc := cellsOf_ok rv (nU_ok hu)
        have hcl : (cellsOf (opA p.2 F)).length = (a.eval p.2).cells.size := by simpa using rc.length
        obtain ⟨f1, f2⟩ := fillL_ok (cellsOf (opA p.2 F)) off l h3'
        obtain ⟨g1, g2⟩ := foldl_set off (a.eval p.2).cells.toList 0 cs (by simp only [Array.length_toList]; omega)
        have hconv : (a.eval p.2).cells.zipIdx.foldl (fun cs (c, j) => cs.setIfInBounds (off + j) c) cs = ((a.eval p.2).cells.toList.zipIdx 0).foldl (fun cs (c, j) => cs.setIfInBounds (off + j) c) cs := by
          rw [← Array.foldl_toList, Array.toList_zipIdx]
        have rl2 : RL P ρ (fillL (cellsOf (opA p.2 F)) off l) (((a.eval p.2).cells.toList.zipIdx 0).foldl (fun cs (c, j) => cs.setIfInBounds (off + j) c) cs).toList := by
          refine RL.of (by rw [f1]; simp [g1, hlen]) fun j hj => ?_
          rw [f1] at hj
          rw [f2 j, Array.getElem?_toList, g2 j]
          simp only [Nat.add_zero, Array.length_toList, ← hcl]
          by_cases q : off ≤ j ∧ j < off + (cellsOf (opA p.2 F)).length
          · rw [if_pos q, if_pos q]
            exact rc.get (j - off) (by omega)
          · rw [if_neg q, if_neg q]
            obtain ⟨v, e1, e2⟩ := rl.get j hj
            exact ⟨v, by simpa using e1, e2⟩
        obtain ⟨l', cs', e1, e2, e3, e4⟩ := fill_ok fr s place r _ _ k (fun p hp' => hp p (by simp [hp'])) rl2 hk2 (by rw [f1]; exact h6)
        refine ⟨l', cs', ?_, e2, e3.trans f1, e4⟩
        simp only [List.map_cons, Instr.fill, hpl]
        rw [if_neg (by simp; exact ⟨by omega, by omega⟩), hconv]
        exact e1
      · exact bad_ok h1
theorem partsF_eq {α : Type} (place : Nat → Option (Nat × Nat)) (ps : List (Nat × Operand)) (k : List Pt → α) : partsF place ps k = k (ps.map fun p => match place p.1 with
    | some (i, sz) => ⟨i, sz, opA p.2⟩
    | none => ⟨0, 1000000, opA p.2⟩) := by
  refine mapF_eq _ _ ps k fun p _ k => ?_
  rw [opF_eq]
  cases place p.1 with
  | none => rfl
  | some x => simp
theorem zeroVF_eq {α : Type} (t : TypeId) (b : α) (k : AV → α) : zeroVF P t b k = match (P.info? t).bind (·.zero) with
    | some v => k (valA v)
    | none => b := by
  unfold zeroVF
  cases P.info? t with
  | none => rfl
  | some i => cases hz : i.zero <;> simp [hz, valF_eq]
end
end Go.Ev
namespace Go.Ev
open Go Go.RowKit
section
variable {P : Program} {base N : Nat} {cl : Cl} {o : Oper} {u y c : Operand}
theorem places_of : ∀ {fs : List Field}, (fs.all fun f => (P.info? f.type).isSome) = true →
    fs.mapM (fun f => (P.info? f.type).map fun i => (f.offset, i.size)) = some (fs.map fun f => (f.offset, szOf P f.type))
  | [], _ => rfl
  | f :: fs, h => by
    simp only [List.all_cons, Bool.and_eq_true] at h
    obtain ⟨i, hi⟩ := Option.isSome_iff_exists.1 h.1
    simp [List.mapM_cons, hi, places_of h.2, szOf, Program.cellsOf]
theorem built_eq {t : TypeId} {i : TypeInfo} {v : Value} (hi : P.info? t = some i) (hz : i.zero = some v) (hf : fldsOk P t = true) (parts : List (Nat × Value)) :
    P.built t parts = Instr.fill (placeOf P t) v.cells parts := by
  unfold fldsOk at hf
  unfold Program.built
  cases hu : P.underlying t with
  | none => rw [hu] at hf; cases hf
  | some d =>
    rw [hu] at hf
    cases d <;> try cases hf
    case array n e =>
      obtain ⟨ie, hie⟩ := Option.isSome_iff_exists.1 hf
      simp only [hi, hz, hie]
      congr 1
      funext j
      simp [placeOf, hu, szOf, Program.cellsOf, hie]
    case struct fs =>
      have hm := places_of hf
      simp only [hi, hz, hm]
      congr 1
      funext j
      simp [placeOf, hu]
theorem bld_ok {t : TypeId} {ps : Array (Nat × Operand)} {i : TypeInfo} {v : Value} (ho : o.op = .build t ps) (hp : ∀ p ∈ ps.toList, okO P p.2 = true) (hi : P.info? t = some i) (hz : i.zero = some v) (hf : fldsOk P t = true)
    (h6 : (cellsOf (valA v)).length < 1000000) :
    XS P base N cl (xBld (cellsOf (valA v)) (ps.toList.map fun p => match placeOf P t p.1 with
      | some (i, sz) => ⟨i, sz, opA p.2⟩
      | none => ⟨0, 1000000, opA p.2⟩)) o := .pure fun F h k ρ w a fr s hx => by
  obtain ⟨l', cs', e1, e2, _, e4⟩ := fill_ok fr s (placeOf P t) ps.toList _ v.cells _ hp (cellsOf_valA v) hx h6
  refine ⟨.g l', .agg cs', by simp only [RV]; exact ⟨_, rfl, e2⟩, e4, ?_⟩
  have hb : P.built t (ps.map fun (i, x) => (i, a.eval x)).toList = some cs' := by
    rw [built_eq hi hz hf, Array.toList_map]; exact e1
  simp only [execOp, ho, Sem.run_bind, run_build w t _ cs' hb, Result.andThen_ok, Sem.run_pure]
theorem appL_eq : ∀ x y : List AV, appL x y = x ++ y
  | [], _ => rfl
  | a :: x, y => congrArg (a :: ·) (appL_eq x y)
theorem repL_len (l : List AV) : ∀ n, (repL n l).length = n * l.length
  | 0 => by show ([] : List AV).length = _; simp
  | n + 1 => by show (appL l (repL n l)).length = _; rw [appL_eq, List.length_append, repL_len l n, Nat.succ_mul, Nat.add_comm]
theorem repL_ok {ρ : Rn} {l : List AV} {l' : List Value} (rl : RL P ρ l l') : ∀ n, RL P ρ (repL n l) ((List.replicate n l').flatten)
  | 0 => by show RL P ρ [] _; simp [RL]
  | n + 1 => by
    show RL P ρ (appL l (repL n l)) _
    rw [appL_eq, List.replicate_succ, List.flatten_cons]
    exact rl.append (repL_ok rl n)
/-- The cells of n zero elements. -/
theorem zeros_eq (z : Array Value) (n : Nat) : ((Array.range (n * z.size)).map fun i => z[i % z.size]!).toList = (List.replicate n z.toList).flatten := by
  refine List.ext_getElem? fun j => ?_
  have hlen : ((List.replicate n z.toList).flatten).length = n * z.size := by simp
  by_cases hj : j < n * z.size
  · have hz : 0 < z.size := by
      rcases Nat.eq_zero_or_pos z.size with q | q
      · rw [q] at hj; simp at hj
      · exact q
    have key : ∀ (n j : Nat), j < n * z.size → ((List.replicate n z.toList).flatten)[j]? = z.toList[j % z.size]? := by
      intro n
      induction n with
      | zero => intro j hj; simp at hj
      | succ n ih =>
        intro j hj
        rw [List.replicate_succ, List.flatten_cons]
        by_cases q : j < z.size
        · rw [List.getElem?_append_left (by simpa using q), Nat.mod_eq_of_lt q]
        · rw [List.getElem?_append_right (by simpa using Nat.le_of_not_lt q), ih _ (by rw [Nat.succ_mul] at hj; simp; omega)]
          congr 1
          simp only [Array.length_toList]
          rw [← Nat.mod_eq_sub_mod (Nat.le_of_not_lt q)]
    rw [key n j hj]
    have hm : j % z.size < z.size := Nat.mod_lt _ hz
    simp [hj, hm, getElem!_def]
  · rw [List.getElem?_eq_none (by simp; omega), List.getElem?_eq_none (by omega)]
theorem bldS_ok {t e : TypeId} {len : Nat} {ps : Array (Nat × Operand)} {i : TypeInfo} {v : Value} (ho : o.op = .buildSlice t len ps) (hp : ∀ p ∈ ps.toList, okO P p.2 = true) (ht : P.underlying t = some (.slice e))
    (hi : P.info? e = some i) (hz : i.zero = some v) (hvs : v.cells.size = i.size) (h6 : len * i.size < 1000000) :
    XS P base N cl (xBldS e len (cellsOf (valA v)) (ps.toList.map fun p => match (fun j => some (j * i.size, i.size)) p.1 with
      | some (j, sz) => ⟨j, sz, opA p.2⟩
      | none => ⟨0, 1000000, opA p.2⟩)) o := .of fun F h k ρ w a fr s hx => by
  have hcl : (cellsOf (valA v)).length = i.size := by rw [← hvs]; simpa using (cellsOf_valA (P := P) (ρ := ρ) v).length
  have hrl : RL P ρ (repL len (cellsOf (valA v))) ((Array.range (len * v.cells.size)).map fun j => v.cells[j % v.cells.size]!).toList := by
    rw [zeros_eq]; exact repL_ok (cellsOf_valA v) len
  obtain ⟨l', cs', e1, e2, e3, e4⟩ := fill_ok fr s (fun j => some (j * i.size, i.size)) ps.toList _ ((Array.range (len * v.cells.size)).map fun j => v.cells[j % v.cells.size]!) _ hp hrl hx
    (by rw [repL_len, hcl]; exact h6)
  obtain ⟨h1, h2, hx⟩ := newC_ok e4
  obtain ⟨ρ', st, q1, q2, q3, q4⟩ := new_ok s h2 (e := e) e2 h1
  have hl' : l'.length = len * i.size := by rw [e3, repL_len, hcl]
  refine ⟨ρ', _, _, .slice (some ⟨w.heap.size, 0, none⟩) len len, _, st, ?_, hx, ?_⟩
  · simp only [RV]
    refine ⟨_, _, _, q1, rfl, Nat.le_refl _, .inl ⟨by rw [st.off0 q1], ?_, ?_⟩⟩
    · rw [q2, q4, hl']; simp [Program.cellsOf, hi]
    · rw [q3, q4, hl']; simp [Program.cellsOf, hi]
  · have e1n : Instr.fill (fun j => some (j * i.size, i.size)) ((Array.range (len * i.size)).map fun j => v.cells[j % v.cells.size]!) (ps.map fun (j, x) => (j, a.eval x)).toList = some cs' := by
      rw [Array.toList_map, ← hvs]; rw [← hvs] at e1; exact e1
    simp only [execOp, ho, Instr.buildSlice, run_under ht, run_size hi, Sem.run_bind, Result.andThen_ok, Sem.run_pure]
    rw [if_neg (by omega)]
    by_cases h0 : len * i.size = 0
    · have e1z : Instr.fill (fun j => some (j * i.size, i.size)) ((Array.range (len * i.size)).map fun j => (#[] : Array Value)[j % (#[] : Array Value).size]!) (ps.map fun (j, x) => (j, a.eval x)).toList = some cs' := by
        rw [← e1n]; congr 1; rw [h0]; simp
      rw [if_pos h0, pure_bind]
      rw [e1z]; rfl
    · rw [if_neg h0]
      simp only [Sem.run_bind, run_zero hi hz, Sem.run_pure, Result.andThen_ok]
      rw [e1n]; rfl
theorem mkF_ok {fn : Fn} {x1 x2 : Array Operand} (ho : o.op = .makeFunc fn x1 x2) (h1 : ∀ p ∈ x1.toList, okO P p = true) (h2 : ∀ p ∈ x2.toList, okO P p = true) :
    XS P base N cl (xMkF fn (x1.toList.map opA) (x2.toList.map opA)) o := .pure fun F h k ρ w a fr s hx => by
  have key : ∀ l : List Operand, (∀ p ∈ l, okO P p = true) → RL P ρ (mapO (l.map opA) F) (l.map a.eval) := by
    intro l
    induction l with
    | nil => intro _; simp [mapO, RL]
    | cons x r ih => intro hp; show RL P ρ (opA x F :: mapO (r.map opA) F) (a.eval x :: r.map a.eval); simp only [RL]; exact ⟨_, _, rfl, opA_ok fr s (hp x (by simp)), ih fun p hp' => hp p (by simp [hp'])⟩
  exact ⟨_, .func fn (x1.map a.eval) (x2.map a.eval), by simp only [RV]; exact ⟨_, _, rfl, by rw [Array.toList_map]; exact key _ h1, by rw [Array.toList_map]; exact key _ h2⟩, hx, by simp [execOp, ho, Instr.makeFunc]⟩
theorem mkI_ok {t : TypeId} (ho : o.op = .makeInterface t u) (hu : okO P u = true) (ht : P.concrete t = true) : XS P base N cl (xMkI t (opA u)) o := .pure fun F h k ρ w a fr s hx =>
  ⟨_, .iface t (a.eval u), by simp only [RV]; exact ⟨_, rfl, opA_ok fr s hu⟩, hx, by simp [execOp, ho, run_makeInterface w t _ ht]⟩
theorem lenL_ok {t e : TypeId} {cc : Call} (ho : o.op = .call cc) (hc : cc.callee = .builtin .len) (ha : cc.args = #[u]) (hu : okO P u = true) (ht : (cc.argTypes[0]?).bind P.underlying = some (.slice e)) : XS P base N cl (xLenL (opA u)) o := .pure fun F h k ρ w a fr s hx => by
  have rc := opA_ok fr s hu
  obtain ⟨t0, ht0, hut⟩ := Option.bind_eq_some_iff.1 ht
  rcases asSl_ok hx with ⟨hb, hx⟩ | ⟨b, n, len, hb, hx⟩
  · rw [hb] at rc; simp only [RV] at rc
    exact ⟨_, .int .i64 (0 : Nat), by simp only [RV]; rfl, hx, by simp [execOp, ho, resolve, hc, ha, invoke, builtin, Builtin.len_, ht0, run_under hut, rc, goInt]⟩
  · rw [hb] at rc; simp only [RV] at rc
    obtain ⟨q, ad, cap, hq, he, _⟩ := rc
    exact ⟨_, .int .i64 (len : Nat), by simp only [RV]; rfl, hx, by simp [execOp, ho, resolve, hc, ha, invoke, builtin, Builtin.len_, ht0, run_under hut, he, goInt]⟩
theorem lenA_ok {n : Nat} {e : TypeId} {cc : Call} (ho : o.op = .call cc) (hc : cc.callee = .builtin .len) (ha : cc.args = #[u]) (ht : (cc.argTypes[0]?).bind P.underlying = some (.array n e)) : XS P base N cl (xLenA n) o := .pure fun F h k ρ w a fr s hx => by
  obtain ⟨t0, ht0, hut⟩ := Option.bind_eq_some_iff.1 ht
  exact ⟨_, .int .i64 (n : Nat), by simp only [RV]; rfl, hx, by simp [execOp, ho, resolve, hc, ha, invoke, builtin, Builtin.len_, ht0, run_under hut, goInt]⟩
theorem min_ok {cc : Call} (ho : o.op = .call cc) (hc : cc.callee = .builtin .min) (ha : cc.args = #[u, y]) (hu : okO P u = true) (hy : okO P y = true) : XS P base N cl (xMM minI (opA u) (opA y)) o := .pure fun F h k ρ w a fr s hx => by
  obtain ⟨kd, m, n, h1, h2, hx⟩ := asII_ok hx
  obtain ⟨e1, e2⟩ := ii hu hy fr s h1 h2
  rw [intF_eq, mm_min] at hx
  exact ⟨_, .int kd (if n < m then n else m), by simp only [RV], hx, by simp [execOp, ho, resolve, hc, ha, invoke, builtin, Builtin.min_, Builtin.min2, e1, e2]⟩
theorem max_ok {cc : Call} (ho : o.op = .call cc) (hc : cc.callee = .builtin .max) (ha : cc.args = #[u, y]) (hu : okO P u = true) (hy : okO P y = true) : XS P base N cl (xMM maxI (opA u) (opA y)) o := .pure fun F h k ρ w a fr s hx => by
  obtain ⟨kd, m, n, h1, h2, hx⟩ := asII_ok hx
  obtain ⟨e1, e2⟩ := ii hu hy fr s h1 h2
  rw [intF_eq, mm_max] at hx
  exact ⟨_, .int kd (if n > m then n else m), by simp only [RV], hx, by simp [execOp, ho, resolve, hc, ha, invoke, builtin, Builtin.max_, Builtin.max2, e1, e2]⟩
end
end Go.Ev

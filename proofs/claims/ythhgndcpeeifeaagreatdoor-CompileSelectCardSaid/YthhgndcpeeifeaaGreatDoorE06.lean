/- Part of the proof of CompileForCardSaid. -/
import Derived.Test.YthhgndcpeeifeaaGreatDoorE05
import Derived.ChangeKeysEq
set_option linter.unusedVariables false
set_option linter.unusedSimpArgs false
set_option linter.unusedSectionVars false
set_option linter.constructorNameAsVariable false
namespace Go.Ev
open Go Go.RowKit
variable {r : DV}
section
variable {P : Program} {base N : Nat} {cl : Cl} {o : Oper} {u y c : Operand}
theorem equal_now {t : TypeId} {d : TypeDesc} (hd : P.underlying t = some d) {a b : Value} {x : Bool} (h : Instr.sameNow d a b = some x) (n : Nat) (w : World) : (Op.equalIn (n + 1) t a b).run P w = .ok x w := by
  unfold Instr.sameNow at h
  split at h
  · split at h
    · rename_i hk; subst hk; cases h; simp [Op.equalIn, run_under hd]
    · cases h
  · cases h; simp [Op.equalIn, run_under hd]
  · cases h; simp [Op.equalIn, run_under hd]
  · cases h
noncomputable def eqK (kd : Nat) (a b : AV) : Option Bool := match kd with | 0 => eqKi a b | 1 => eqKs a b | _ => eqKb a b
theorem eqK_now {t : TypeId} {kd : Nat} (hk : kdOf P t = some kd) {ρ : Rn} {h : Hp} {w : World} (s : Sim P base ρ h w) {a b : AV} {a' b' : Value} {x : Bool} (ha : RV P ρ a a') (hb : RV P ρ b b') (hx : eqK kd a b = some x) :
    ∃ d, P.underlying t = some d ∧ Plain d ∧ Instr.sameNow d a' b' = some x := by
  unfold kdOf at hk
  split at hk
  · rename_i hu; cases hk; exact ⟨_, hu, .inl ⟨_, rfl⟩, eqKi_ok s ha hb hx⟩
  · rename_i hu; cases hk; exact ⟨_, hu, .inr (.inl rfl), by obtain ⟨s1, s2, rfl, rfl, rfl⟩ := eqKs_ok s ha hb hx; rfl⟩
  · rename_i hu; cases hk; exact ⟨_, hu, .inr (.inr rfl), eqKb_ok ha hb hx⟩
  · cases hk
theorem part_plain {t : TypeId} {d : TypeDesc} (hd : P.underlying t = some d) (hp : Plain d) {cs : Array Value} {off : Nat} {v : Value} (hv : cs[off]? = some v) (w : World) : (part t cs off).run P w = .ok v w := by
  rcases hp with ⟨kd, rfl⟩ | rfl | rfl <;> simp [part, isAgg, run_under hd, hv]
theorem eqKl_cons (kd : Nat) (ks : List Nat) (a b : AV) (x y : List AV) : eqKl (kd :: ks) (a :: x) (b :: y) = match eqK kd a b with
    | some true => eqKl ks x y
    | some false => some false
    | none => none := rfl
theorem eqKl_nil (x y : List AV) (b : Bool) (h : eqKl [] x y = some b) : x = [] ∧ y = [] ∧ b = true := by
  cases x <;> cases y <;> first | (cases h; exact ⟨rfl, rfl, rfl⟩) | cases h
theorem eqKl_some {kd : Nat} {ks : List Nat} {x y : List AV} {b : Bool} (h : eqKl (kd :: ks) x y = some b) : ∃ a x1 a' y1 e, x = a :: x1 ∧ y = a' :: y1 ∧ eqK kd a a' = some e ∧ (e = true → eqKl ks x1 y1 = some b) ∧ (e = false → b = false) := by
  cases x with
  | nil => cases y <;> cases h
  | cons a x1 =>
    cases y with
    | nil => cases h
    | cons a' y1 =>
      rw [eqKl_cons] at h
      cases he : eqK kd a a' with
      | none => rw [he] at h; cases h
      | some e =>
        rw [he] at h
        cases e with
        | true => exact ⟨a, x1, a', y1, true, rfl, rfl, he, fun _ => h, fun e => (by cases e)⟩
        | false => cases h; exact ⟨a, x1, a', y1, false, rfl, rfl, he, fun e => (by cases e), fun _ => rfl⟩
/-- A struct of plain fields, each of one cell. -/
theorem leafs_cons {f : Field} {fs : List Field} {n : Nat} {ks : List Nat} (h : leafs P (f :: fs) n = some ks) : ∃ kd ks', ks = kd :: ks' ∧ kdOf P f.type = some kd ∧ leafs P fs (n + 1) = some ks' ∧ f.name ≠ "_" ∧ f.offset = n := by
  unfold leafs at h
  split at h
  · rename_i k l h1 h2
    cases hc : (!(f.name == "_") && f.offset == n && ((P.info? f.type).map (·.size) == some 1)) with
    | false => rw [hc] at h; cases h
    | true =>
      rw [hc] at h; cases h
      simp only [Bool.and_eq_true, Bool.not_eq_true', beq_iff_eq] at hc
      exact ⟨k, l, rfl, h1, h2, by simpa using hc.1.1, hc.1.2⟩
  · cases h
theorem drop_cons {cs : Array Value} {n : Nat} {v : Value} {l : List Value} (h : cs.toList.drop n = v :: l) : cs[n]? = some v ∧ cs.toList.drop (n + 1) = l := by
  have h1 : (cs.toList.drop n)[0]? = some v := by rw [h]; rfl
  rw [List.getElem?_drop] at h1
  refine ⟨by simpa using h1, ?_⟩
  have := congrArg (List.drop 1) h
  simpa [List.drop_drop, Nat.add_comm] using this
theorem flat_fields {ρ : Rn} {h : Hp} {w : World} (s : Sim P base ρ h w) (d : Nat) (xs ys : Array Value) (w' : World) : ∀ (fs : List Field) (n : Nat) (ks : List Nat) (x y : List AV) (b : Bool), leafs P fs n = some ks → RL P ρ x (xs.toList.drop n) → RL P ρ y (ys.toList.drop n) → eqKl ks x y = some b →
    (Op.eqFields (d + 1) xs ys fs).run P w' = .ok b w'
  | [], n, ks, x, y, b, hl, hx, hy, hb => by
    cases hl
    obtain ⟨_, _, rfl⟩ := eqKl_nil x y b hb
    simp [Op.eqFields]
  | f :: fs, n, ks, x, y, b, hl, hx, hy, hb => by
    obtain ⟨kd, ks', rfl, h1, h2, h3, h4⟩ := leafs_cons hl
    obtain ⟨a, x1, a', y1, e, rfl, rfl, g1, g2, g3⟩ := eqKl_some hb
    simp only [RL] at hx hy
    obtain ⟨v, l, v1, v2, v3⟩ := hx
    obtain ⟨v', l', v1', v2', v3'⟩ := hy
    obtain ⟨c1, c2⟩ := drop_cons v1
    obtain ⟨c1', c2'⟩ := drop_cons v1'
    obtain ⟨D, u1, u2, u3⟩ := eqK_now h1 s v2 v2' g1
    rw [← h4] at c1 c1'
    simp only [Op.eqFields, h3, ne_eq, not_false_eq_true, if_true, Sem.run_bind, part_plain u1 u2 c1, part_plain u1 u2 c1', equal_now u1 u3 d, Result.andThen_ok]
    cases e with
    | false => cases g3 rfl; simp
    | true =>
      simp only [Bool.not_true, Bool.false_eq_true, if_false]
      exact flat_fields s d xs ys w' fs (n + 1) ks' x1 y1 b h2 (by rw [c2]; exact v3) (by rw [c2']; exact v3') (g2 rfl)
theorem flat_items {ρ : Rn} {h : Hp} {w : World} (s : Sim P base ρ h w) (d : Nat) {e : TypeId} {kd : Nat} (hk : kdOf P e = some kd) (xs ys : Array Value) (w' : World) : ∀ (m n : Nat) (x y : List AV) (b : Bool), RL P ρ x (xs.toList.drop n) → RL P ρ y (ys.toList.drop n) → eqKl (List.replicate m kd) x y = some b →
    (Op.eqItems (d + 1) e 1 xs ys (List.range' n m)).run P w' = .ok b w'
  | 0, n, x, y, b, hx, hy, hb => by
    obtain ⟨_, _, rfl⟩ := eqKl_nil x y b hb
    simp [Op.eqItems]
  | m + 1, n, x, y, b, hx, hy, hb => by
    rw [List.replicate_succ] at hb
    obtain ⟨a, x1, a', y1, e, rfl, rfl, g1, g2, g3⟩ := eqKl_some hb
    simp only [RL] at hx hy
    obtain ⟨v, l, v1, v2, v3⟩ := hx
    obtain ⟨v', l', v1', v2', v3'⟩ := hy
    obtain ⟨c1, c2⟩ := drop_cons v1
    obtain ⟨c1', c2'⟩ := drop_cons v1'
    obtain ⟨D, u1, u2, u3⟩ := eqK_now hk s v2 v2' g1
    rw [List.range'_succ]
    simp only [Op.eqItems, Nat.mul_one, Sem.run_bind, part_plain u1 u2 c1, part_plain u1 u2 c1', equal_now u1 u3 d, Result.andThen_ok]
    cases e with
    | false => cases g3 rfl; simp
    | true =>
      simp only [Bool.not_true, Bool.false_eq_true, if_false]
      exact flat_items s d hk xs ys w' m (n + 1) x1 y1 b (by rw [c2]; exact v3) (by rw [c2']; exact v3') (g2 rfl)
/-- What is asked of a flat type. -/
theorem flatO_ok {t : TypeId} {ks : List Nat} (h : flatO P t = some ks) : (∃ fs, P.underlying t = some (.struct fs) ∧ P.stoodInHeld t = false ∧ leafs P fs.toList 0 = some ks) ∨
    ∃ n e kd i, P.underlying t = some (.array n e) ∧ kdOf P e = some kd ∧ P.info? e = some i ∧ i.size = 1 ∧ ks = List.replicate n kd := by
  unfold flatO at h
  split at h
  · rename_i fs hu
    cases hs : P.stoodInHeld t with
    | true => rw [hs] at h; cases h
    | false => rw [hs] at h; exact .inl ⟨fs, hu, rfl, h⟩
  · rename_i n e hu
    split at h
    · rename_i kd hk
      cases hc : ((P.info? e).map (·.size) == some 1) with
      | false => rw [hc] at h; cases h
      | true =>
        rw [hc] at h; cases h
        simp only [beq_iff_eq, Option.map_eq_some_iff] at hc
        obtain ⟨i, h1, h2⟩ := hc
        exact .inr ⟨n, e, kd, i, hu, hk, h1, h2, rfl⟩
    · cases h
  · cases h
theorem eqKg_some {ks : List Nat} {a b : AV} {x : Bool} (h : eqKg ks a b = some x) : ∃ l l', a = .g l ∧ b = .g l' ∧ eqKl ks l l' = some x := by
  unfold eqKg at h
  split at h
  · exact ⟨_, _, rfl, rfl, h⟩
  · cases h
theorem flat_equal {t : TypeId} {ks : List Nat} (hf : flatO P t = some ks) {ρ : Rn} {h : Hp} {w : World} (s : Sim P base ρ h w) {a b : AV} {a' b' : Value} {x : Bool} (ha : RV P ρ a a') (hb : RV P ρ b b') (hx : eqKg ks a b = some x) (d : Nat) (w' : World) :
    (∃ xs ys, a' = .agg xs ∧ b' = .agg ys) ∧ (Op.equalIn (d + 2) t a' b').run P w' = .ok x w' := by
  obtain ⟨l, l', rfl, rfl, hl⟩ := eqKg_some hx
  simp only [RV] at ha hb
  obtain ⟨xs, rfl, rx⟩ := ha
  obtain ⟨ys, rfl, ry⟩ := hb
  refine ⟨⟨xs, ys, rfl, rfl⟩, ?_⟩
  rcases flatO_ok hf with ⟨fs, h1, h2, h3⟩ | ⟨n, e, kd, i, h1, h2, h3, h4, rfl⟩
  · have hfo : P.fieldsOf t = fs := by simp [Program.fieldsOf, h1]
    rw [run_equalIn_struct w' (d + 1) t xs ys (by rw [hfo]; exact h1) h2, hfo]
    exact flat_fields s d xs ys w' fs.toList 0 ks l l' x h3 (by simpa using rx) (by simpa using ry) hl
  · rw [run_equalIn_array w' (d + 1) xs ys h1 h3, show P.cellsOf e = 1 by simp [Program.cellsOf, h3, h4], List.range_eq_range']
    exact flat_items s d h2 xs ys w' n 0 l l' x (by simpa using rx) (by simpa using ry) hl
theorem flat_bits {ks : List Nat} {t : TypeId} (hf : flatO P t = some ks) {ρ : Rn} {h : Hp} {w : World} (s : Sim P base ρ h w) {a b : AV} {a' b' : Value} (ha : RV P ρ a a') (hb : RV P ρ b b') (hx : eqKg ks a b = some true) (n : Nat) : Instr.sameBits (n + 1) b' a' = true := by
  obtain ⟨l, l', rfl, rfl, hl⟩ := eqKg_some hx
  simp only [RV] at ha hb
  obtain ⟨xs, rfl, rx⟩ := ha
  obtain ⟨ys, rfl, ry⟩ := hb
  have kds : ∀ kd ∈ ks, ∃ t, kdOf P t = some kd := by
    rcases flatO_ok hf with ⟨fs, h1, h2, h3⟩ | ⟨m, e, kd, i, h1, h2, h3, h4, rfl⟩
    · have : ∀ (fs : List Field) (m : Nat) (ks : List Nat), leafs P fs m = some ks → ∀ kd ∈ ks, ∃ t, kdOf P t = some kd := by
        intro fs
        induction fs with
        | nil => intro m ks h kd hk; cases h; cases hk
        | cons f fs ih =>
          intro m ks h kd hk
          obtain ⟨kd', ks', rfl, g1, g2, _⟩ := leafs_cons h
          rcases List.mem_cons.1 hk with rfl | hk
          · exact ⟨_, g1⟩
          · exact ih _ _ g2 kd hk
      exact this _ _ _ h3
    · intro k hk
      rw [List.eq_of_mem_replicate hk]
      exact ⟨e, h2⟩
  have key : ∀ (ks : List Nat) (x y : List AV) (x' y' : List Value), (∀ kd ∈ ks, ∃ t, kdOf P t = some kd) → RL P ρ x x' → RL P ρ y y' → eqKl ks x y = some true → y'.length = x'.length ∧ ((y'.zip x').all fun (p, q) => Instr.sameBits n p q) = true := by
    intro ks
    induction ks with
    | nil =>
      intro x y x' y' _ hx hy he
      obtain ⟨rfl, rfl, _⟩ := eqKl_nil x y true he
      simp only [RL] at hx hy; subst hx; subst hy; simp
    | cons kd ks ih =>
      intro x y x' y' hks hx hy he
      obtain ⟨a, x1, b, y1, e, rfl, rfl, g1, g2, g3⟩ := eqKl_some he
      simp only [RL] at hx hy
      obtain ⟨v, l, rfl, v2, v3⟩ := hx
      obtain ⟨v', l', rfl, v2', v3'⟩ := hy
      cases e with
      | false => cases g3 rfl
      | true =>
        obtain ⟨t, ht⟩ := hks kd (by simp)
        obtain ⟨D, _, _, u3⟩ := eqK_now ht s v2 v2' g1
        obtain ⟨i1, i2⟩ := ih x1 y1 l l' (fun k hk => hks k (by simp [hk])) v3 v3' (g2 rfl)
        exact ⟨by simp [i1], by simp only [List.zip_cons_cons, List.all_cons, same_bits u3 n, Bool.true_and]; exact i2⟩
  obtain ⟨k1, k2⟩ := key ks l l' xs.toList ys.toList kds rx ry hl
  have k1' : ys.size = xs.size := by simpa using k1
  simp only [Instr.sameBits, k1', beq_self_eq_true, Bool.true_and]
  exact k2
theorem flat_check {t : TypeId} {ks : List Nat} (hf : flatO P t = some ks) {ρ : Rn} {h : Hp} {w : World} (s : Sim P base ρ h w) {a : AV} {a' : Value} (ha : RV P ρ a a') (hx : eqKg ks a a = some true) (em : Bool) (d : Nat) (w' : World) : (Instr.checkKey em (d + 2) t a').run P w' = .ok () w' := by
  obtain ⟨l, l', rfl, e, hl⟩ := eqKg_some hx
  cases e
  simp only [RV] at ha
  obtain ⟨xs, rfl, rx⟩ := ha
  rcases flatO_ok hf with ⟨fs, h1, h2, h3⟩ | ⟨n, e, kd, i, h1, h2, h3, h4, rfl⟩
  · rw [Instr.checkKey]
    simp only [Sem.run_bind, run_under h1, Result.andThen_ok]
    rw [← Array.forIn_toList]
    have rx' : RL P ρ l (xs.toList.drop 0) := by simpa using rx
    clear h1 hf hx rx
    generalize fs.toList = L at h3
    generalize 0 = m at h3 rx'
    induction L generalizing m ks l with
    | nil => simp
    | cons f L ih =>
      obtain ⟨kd, ks', rfl, g1, g2, g3, g4⟩ := leafs_cons h3
      obtain ⟨a, x1, a', y1, e, rfl, e2, q1, q2, q3⟩ := eqKl_some hl
      cases e2
      simp only [RL] at rx'
      obtain ⟨v, l2, v1, v2, v3⟩ := rx'
      obtain ⟨c1, c2⟩ := drop_cons v1
      obtain ⟨D, u1, u2, u3⟩ := eqK_now g1 s v2 v2 q1
      rw [← g4] at c1
      have he : e = true := by cases e with | true => rfl | false => exact (q3 rfl).symm
      simp only [List.forIn_cons, Sem.run_bind, g3, ne_eq, not_false_eq_true, if_true, Result.andThen_ok, part_plain u1 u2 c1, run_checkKey u1 u2, Sem.run_pure]
      exact ih x1 (q2 he) (m + 1) g2 (by rw [c2]; exact v3)
  · rw [Instr.checkKey]
    simp only [Sem.run_bind, run_under h1, Result.andThen_ok]
    simp only [Std.Legacy.Range.forIn_eq_forIn_range', Std.Legacy.Range.size, Nat.sub_zero, Nat.add_one_sub_one, Nat.div_one]
    have rx' : RL P ρ l (xs.toList.drop 0) := by simpa using rx
    clear h1 hf hx rx
    generalize 0 = m at rx'
    induction n generalizing m l with
    | zero => simp
    | succ n ih =>
      rw [List.replicate_succ] at hl
      obtain ⟨a, x1, a', y1, e', rfl, e2, q1, q2, q3⟩ := eqKl_some hl
      cases e2
      simp only [RL] at rx'
      obtain ⟨v, l2, v1, v2, v3⟩ := rx'
      obtain ⟨c1, c2⟩ := drop_cons v1
      obtain ⟨D, u1, u2, u3⟩ := eqK_now h2 s v2 v2 q1
      have he : e' = true := by cases e' with | true => rfl | false => exact (q3 rfl).symm
      rw [List.range'_succ]
      simp only [List.forIn_cons, Sem.run_bind, run_size h3, h4, Nat.mul_one, Result.andThen_ok, part_plain u1 u2 c1, run_checkKey u1 u2, Sem.run_pure]
      exact ih x1 (q2 he) (m + 1) (by rw [c2]; exact v3)
theorem qi_g (ks : List Nat) : QI (eqKg ks) := fun key n x h => by cases key <;> simp [eqKg] at h
theorem findAsk_ok {ρ : Rn} {kt : TypeId} {q : AV → AV → Option Bool} {key : AV} {key' : Value} {w' : World}
    (hq : ∀ (b : AV) (b' : Value) (x : Bool), RV P ρ b b' → q key b = some x → (Op.equal kt key' b').run P w' = .ok x w') : ∀ (es : List (AV × AV)) (es' : List MapEntry) (i : Nat), ER P ρ es es' →
    ((∀ p ∈ es, q key p.1 = some false) → (Instr.findAsking kt key' es' i).run P w' = .ok none w') ∧
    ∀ j a v, Stands q key es j a v → ∃ e, es'[j]? = some e ∧ RV P ρ a e.key ∧ RV P ρ v e.val ∧ (Instr.findAsking kt key' es' i).run P w' = .ok (some (i + j, e.val)) w'
  | [], es', i, he => by
    cases (show es' = [] from he)
    exact ⟨fun _ => by simp [Instr.findAsking], fun j a v h => by simp [Stands] at h⟩
  | (a0, v0) :: es, es', i, he => by
    obtain ⟨e, y, rfl, h1, h2, h3⟩ := he
    obtain ⟨g1, g2⟩ := findAsk_ok hq es y (i + 1) h3
    refine ⟨fun hno => ?_, fun j a v hs => ?_⟩
    · have := hq a0 e.key false h1 (hno (a0, v0) (by simp))
      simp only [Instr.findAsking, Sem.run_bind, this, Result.andThen_ok, Bool.false_eq_true, if_false]
      exact g1 fun p hp => hno p (by simp [hp])
    · obtain ⟨s1, s2, s3⟩ := hs
      cases j with
      | zero =>
        simp at s1
        obtain ⟨rfl, rfl⟩ := s1
        have := hq _ e.key true h1 s2
        exact ⟨e, rfl, h1, h2, by simp [Instr.findAsking, this]⟩
      | succ j =>
        obtain ⟨p, t1, t2⟩ := s3 0 (by omega)
        simp at t1; subst t1
        have := hq _ e.key false h1 t2
        obtain ⟨e', q1, q2, q3, q4⟩ := g2 j a v ⟨by simpa using s1, s2, fun i hi => by obtain ⟨p, t1, t2⟩ := s3 (i + 1) (by omega); exact ⟨p, by simpa using t1, t2⟩⟩
        refine ⟨e', by simpa using q1, q2, q3, ?_⟩
        simp only [Instr.findAsking, Sem.run_bind, this, Result.andThen_ok, Bool.false_eq_true, if_false, q4]
        congr 3; omega
theorem key_g {kt : TypeId} {ks : List Nat} (hf : flatO P kt = some ks) : KeyOk P base kt (eqKg ks) true := by
  have hnow : ∃ d, P.underlying kt = some d ∧ ∀ a b, Instr.sameNow d a b = none := by
    rcases flatO_ok hf with ⟨fs, h1, _⟩ | ⟨n, e, kd, i, h1, _⟩
    · exact ⟨_, h1, fun a b => rfl⟩
    · exact ⟨_, h1, fun a b => rfl⟩
  obtain ⟨D, hD, hno⟩ := hnow
  have hk : ∀ (key' : Value) (es' : List MapEntry) (w' : World), (Instr.findKey kt key' es').run P w' = (Instr.findAsking kt key' es').run P w' := fun key' es' w' => by
    cases es' with
    | nil => simp [Instr.findKey, run_under hD, Instr.findNow, Instr.findAsking]
    | cons e es' => simp [Instr.findKey, run_under hD, Instr.findNow, hno]
  refine ⟨qi_g ks, fun s a a' ha hself e w' => flat_check hf s ha (hself rfl) e 9998 w', fun s key key' rk es es' he w' => ?_, fun s a b a' b' ha hb hx => flat_bits hf s ha hb hx 9999⟩
  obtain ⟨g1, g2⟩ := findAsk_ok (kt := kt) (w' := w') (fun b b' x hb hqq => (flat_equal hf s rk hb hqq 9998 w').2) es es' 0 he
  refine ⟨fun h => by rw [hk]; exact g1 h, fun j a v hs => ?_⟩
  obtain ⟨e, q1, q2, q3, q4⟩ := g2 j a v hs
  rw [Nat.zero_add] at q4
  exact ⟨e, q1, q2, q3, by rw [hk]; exact q4⟩
/-- How keys of a type are compared. -/
noncomputable def keyOf (P : Program) (t : TypeId) : Option ((AV → AV → Option Bool) × Bool) := match P.underlying t with
  | some (.int _) => some (eqKi, false)
  | some .string => some (eqKs, false)
  | some .bool => some (eqKb, false)
  | _ => (flatO P t).map fun l => (eqKg l, true)
theorem keyF_eq {α : Type} (t : TypeId) (b : α) (k : (AV → AV → Option Bool) → Bool → α) : keyF P t b k = match Ev.keyOf P t with
    | some (q, f) => k q f
    | none => b := by
  unfold keyF Ev.keyOf
  have e : ∀ (l : List Nat) (k : List Nat → α), mapF l (fun n k => natF n k) k = k l := fun l k => by
    rw [mapF_eq _ id l k fun x _ k => natF_eq x k, List.map_id]
  have g : (match flatO P t with
      | some l => mapF l (fun n k => natF n k) fun l => k (eqKg l) true
      | none => b) = match (flatO P t).map fun l => (eqKg l, true) with
      | some (q, f) => k q f
      | none => b := by
    cases flatO P t with
    | none => rfl
    | some l => exact e l _
  cases hu : P.underlying t with
  | none => exact g
  | some d => cases d <;> first | rfl | exact g
theorem keyOf_ok {t : TypeId} {q : AV → AV → Option Bool} {f : Bool} (h : Ev.keyOf P t = some (q, f)) : KeyOk P base t q f := by
  unfold Ev.keyOf at h
  split at h
  · rename_i hu; cases h; exact key_i hu
  · rename_i hu; cases h; exact key_s hu
  · rename_i hu; cases h; exact key_b hu
  · cases hf : flatO P t with
    | none => rw [hf] at h; cases h
    | some l => rw [hf] at h; cases h; exact key_g hf
/-! equality by type -/
theorem obX_ok {x y : AV} {ob : Option Bool} {k : Bool → Res} (h : obX x y ob k = .ok r) : ∃ b, ob = some b ∧ k b = .ok r := by
  cases ob with
  | none => exact bad_ok h
  | some b => exact ⟨b, rfl, h⟩
theorem run_binEq {t t2 : TypeId} {neg : Bool} (ho : o.op = .binOp (if neg then .neq else .eql) t u y t2) {a : Act} {w : World} {x' y' : Value} (hx : a.eval u = x') (hy : a.eval y = y') {b : Bool}
    (hg : (eqGuard (if neg then .neq else .eql) t u y x' y').run P w = .ok () w) (hb : (binOp (if neg then .neq else .eql) t x' y').run P w = .ok (.bool (if neg then !b else b)) w) :
    (execOp a.eval o).run P w = .ok (.value (.bool (if neg then !b else b))) w := by
  simp [execOp, ho, hx, hy, hg, hb]
theorem keqB_ok {t t2 : TypeId} {neg : Bool} (ho : o.op = .binOp (if neg then .neq else .eql) t u y t2) (hu : okO P u = true) (hy : okO P y = true) (ht : P.underlying t = some .bool) : XS P base N cl (xKeq eqKb neg (opA u) (opA y)) o := .pure fun F h k ρ w a fr s hx => by
  have r1 := opA_ok fr s hu
  have r2 := opA_ok fr s hy
  obtain ⟨b, hb, hx⟩ := obX_ok hx
  have hab : ∃ p q, a.eval u = .bool p ∧ a.eval y = .bool q := by
    generalize opA u F = v1 at r1 hb
    generalize opA y F = v2 at r2 hb
    cases v1 <;> cases v2 <;> first | (cases hb; done) | (simp only [RV] at r1 r2; exact ⟨_, _, r1, r2⟩)
  obtain ⟨p, q, e1, e2⟩ := hab
  have hn := eqKb_ok r1 r2 hb
  rw [e1, e2] at hn
  have hq := equal_now ht hn 9999 w
  rw [bF_eq] at hx
  refine ⟨_, .bool (if neg then !b else b), ?_, hx, run_binEq ho e1 e2 (by cases neg <;> simp [eqGuard]) ?_⟩
  · simp only [RV]; cases neg <;> simp
  · cases neg <;> simp [binOp, Op.equal, Op.maxDepth, hq]
theorem keqG_ok {t t2 : TypeId} {neg : Bool} {ks : List Nat} (ho : o.op = .binOp (if neg then .neq else .eql) t u y t2) (hu : okO P u = true) (hy : okO P y = true) (hf : flatO P t = some ks) (hg : P.eqGuardType P.depth t = false) :
    XS P base N cl (xKeq (eqKg ks) neg (opA u) (opA y)) o := .pure fun F h k ρ w a fr s hx => by
  have r1 := opA_ok fr s hu
  have r2 := opA_ok fr s hy
  obtain ⟨b, hb, hx⟩ := obX_ok hx
  obtain ⟨⟨xs, ys, e1, e2⟩, hq⟩ := flat_equal hf s r1 r2 hb 9998 w
  rw [e1, e2] at hq
  rw [bF_eq] at hx
  refine ⟨_, .bool (if neg then !b else b), ?_, hx, run_binEq ho e1 e2 (run_eqGuard_agg w _ t u y xs ys hg) ?_⟩
  · simp only [RV]; cases neg <;> simp
  · cases neg
    · simp [run_eql_struct, hq]
    · simp [run_neq_struct, hq]
def nilV (kd : Nat) (v : Value) : Option Bool := match kd, v with
  | 0, .slice none 0 0 | 1, .pointer none | 2, .map none | 3, .nilFunc | 4, .nilIface => some true
  | 0, .slice (some _) _ _ | 1, .pointer (some _) | 2, .map (some _) | 3, .func _ _ _ | 4, .iface _ _ => some false
  | _, _ => none
theorem nilO_ok {ρ : Rn} {kd : Nat} {v : AV} {v' : Value} {b : Bool} (rv : RV P ρ v v') (h : nilO kd v = some b) : nilV kd v' = some b := by
  unfold nilO at h
  split at h
  all_goals first
    | (cases h; done)
    | (cases h; simp only [RV] at rv; subst rv; rfl)
    | (cases h; simp only [RV] at rv; obtain ⟨_, _, _, _, rfl, _⟩ := rv; rfl)
    | (cases h; simp only [RV] at rv; obtain ⟨_, _, rfl, _⟩ := rv; rfl)
    | (cases h; simp only [RV] at rv; obtain ⟨_, _, rfl⟩ := rv; rfl)
    | (cases h; simp only [RV] at rv; obtain ⟨_, rfl, _⟩ := rv; rfl)
theorem nil0 {v : Value} {b : Bool} (h : nilV 0 v = some b) : (v = .slice none 0 0 ∧ b = true) ∨ ∃ x n c, v = .slice (some x) n c ∧ b = false := by
  unfold nilV at h; split at h <;> first | (cases h; exact .inl ⟨rfl, rfl⟩) | (cases h; exact .inr ⟨_, _, _, rfl, rfl⟩) | (rename_i e0; cases e0; done) | cases h
theorem nil1 {v : Value} {b : Bool} (h : nilV 1 v = some b) : (v = .pointer none ∧ b = true) ∨ ∃ x, v = .pointer (some x) ∧ b = false := by
  unfold nilV at h; split at h <;> first | (cases h; exact .inl ⟨rfl, rfl⟩) | (cases h; exact .inr ⟨_, rfl, rfl⟩) | (rename_i e0; cases e0; done) | cases h
theorem nil2 {v : Value} {b : Bool} (h : nilV 2 v = some b) : (v = .map none ∧ b = true) ∨ ∃ x, v = .map (some x) ∧ b = false := by
  unfold nilV at h; split at h <;> first | (cases h; exact .inl ⟨rfl, rfl⟩) | (cases h; exact .inr ⟨_, rfl, rfl⟩) | (rename_i e0; cases e0; done) | cases h
theorem nil3 {v : Value} {b : Bool} (h : nilV 3 v = some b) : (v = .nilFunc ∧ b = true) ∨ ∃ x n c, v = .func x n c ∧ b = false := by
  unfold nilV at h; split at h <;> first | (cases h; exact .inl ⟨rfl, rfl⟩) | (cases h; exact .inr ⟨_, _, _, rfl, rfl⟩) | (rename_i e0; cases e0; done) | cases h
theorem nil4 {v : Value} {b : Bool} (h : nilV 4 v = some b) : (v = .nilIface ∧ b = true) ∨ ∃ x n, v = .iface x n ∧ b = false := by
  unfold nilV at h; split at h <;> first | (cases h; exact .inl ⟨rfl, rfl⟩) | (cases h; exact .inr ⟨_, _, rfl, rfl⟩) | (rename_i e0; cases e0; done) | cases h
theorem nl_fin {t t2 : TypeId} {neg : Bool} {d : TypeDesc} (ho : o.op = .binOp (if neg then .neq else .eql) t u y t2) (ht : P.underlying t = some d) {a : Act} {w : World} {v v2 : Value} (he : a.eval u = v) (he2 : a.eval y = v2) {b : Bool}
    (hb : (Op.equalIn (9999 + 1) t v v2).run P w = .ok b w) (hn : ∀ op, binOp op t v v2 = match op with | .eql => (do pure (.bool (← Op.equal t v v2))) | .neq => (do pure (.bool (!(← Op.equal t v v2)))) | _ => binOp op t v v2)
    (hg : (eqGuard .eql t u y v v2).run P w = .ok () w ∧ (eqGuard .neq t u y v v2).run P w = .ok () w) :
    (execOp a.eval o).run P w = .ok (.value (.bool (if neg then !b else b))) w := by
  have hb' : (Op.equal t v v2).run P w = .ok b w := hb
  refine run_binEq ho he he2 ?_ ?_
  · cases neg
    · exact hg.1
    · exact hg.2
  · cases neg
    · show (binOp .eql t v v2).run P w = _
      rw [hn]; simp [hb']
    · show (binOp .neq t v v2).run P w = _
      rw [hn]; simp [hb']
theorem eqN0 {t e : TypeId} (ht : P.underlying t = some (.slice e)) {v : Value} {b : Bool} (hv : nilV 0 v = some b) (n : Nat) (w : World) : (Op.equalIn (n + 1) t v (.slice none 0 0)).run P w = .ok b w := by
  rcases nil0 hv with ⟨rfl, rfl⟩ | ⟨x, n, c, rfl, rfl⟩ <;> simp [Op.equalIn, run_under ht]
theorem eqN1 {t e : TypeId} (ht : P.underlying t = some (.pointer e)) {v : Value} {b : Bool} (hv : nilV 1 v = some b) (n : Nat) (w : World) : (Op.equalIn (n + 1) t v (.pointer none)).run P w = .ok b w := by
  rcases nil1 hv with ⟨rfl, rfl⟩ | ⟨x, rfl, rfl⟩ <;> simp [Op.equalIn, run_under ht]
theorem eqN2 {t e f : TypeId} (ht : P.underlying t = some (.map e f)) {v : Value} {b : Bool} (hv : nilV 2 v = some b) (n : Nat) (w : World) : (Op.equalIn (n + 1) t v (.map none)).run P w = .ok b w := by
  rcases nil2 hv with ⟨rfl, rfl⟩ | ⟨x, rfl, rfl⟩ <;> simp [Op.equalIn, run_under ht]
theorem eqN3 {t : TypeId} {e f g} (ht : P.underlying t = some (.func e f g)) {v : Value} {b : Bool} (hv : nilV 3 v = some b) (n : Nat) (w : World) : (Op.equalIn (n + 1) t v .nilFunc).run P w = .ok b w := by
  rcases nil3 hv with ⟨rfl, rfl⟩ | ⟨x, n, c, rfl, rfl⟩ <;> simp [Op.equalIn, run_under ht]
theorem eqN4 {t : TypeId} {e} (ht : P.underlying t = some (.interface e)) {v : Value} {b : Bool} (hv : nilV 4 v = some b) (n : Nat) (w : World) : (Op.equalIn (n + 1) t v .nilIface).run P w = .ok b w := by
  rcases nil4 hv with ⟨rfl, rfl⟩ | ⟨x, n, rfl, rfl⟩ <;> simp [Op.equalIn, run_under ht]
theorem nl_ok {t t2 : TypeId} {neg : Bool} {kd : Nat} {d : TypeDesc} (ho : o.op = .binOp (if neg then .neq else .eql) t u y t2) (hu : okO P u = true) (ht : P.underlying t = some d)
    (hkd : (kd = 0 ∧ (∃ e, d = .slice e) ∧ y = .const (.slice none 0 0)) ∨ (kd = 1 ∧ (∃ e, d = .pointer e) ∧ y = .const (.pointer none)) ∨ (kd = 2 ∧ (∃ e f, d = .map e f) ∧ y = .const (.map none)) ∨
      (kd = 3 ∧ (∃ e f g, d = .func e f g) ∧ y = .const .nilFunc) ∨ (kd = 4 ∧ (∃ e, d = .interface e) ∧ y = .const .nilIface)) : XS P base N cl (xNl kd neg (opA u)) o := .pure fun F h k ρ w a fr s hx => by
  have r1 := opA_ok fr s hu
  obtain ⟨b, hb, hx⟩ := obX_ok hx
  rw [bF_eq] at hx
  refine ⟨_, .bool (if neg then !b else b), by simp only [RV]; cases neg <;> simp, hx, ?_⟩
  have hv := nilO_ok r1 hb
  generalize he : a.eval u = v at hv
  rcases hkd with ⟨rfl, ⟨e, rfl⟩, rfl⟩ | ⟨rfl, ⟨e, rfl⟩, rfl⟩ | ⟨rfl, ⟨e, f, rfl⟩, rfl⟩ | ⟨rfl, ⟨e, f, g, rfl⟩, rfl⟩ | ⟨rfl, ⟨e, rfl⟩, rfl⟩
  · exact nl_fin ho ht he rfl (eqN0 ht hv 9999 w) (fun op => by rcases nil0 hv with ⟨rfl, rfl⟩ | ⟨x, n, c, rfl, rfl⟩ <;> cases op <;> rfl) (by rcases nil0 hv with ⟨rfl, rfl⟩ | ⟨x, n, c, rfl, rfl⟩ <;> simp [eqGuard, Act.eval])
  · exact nl_fin ho ht he rfl (eqN1 ht hv 9999 w) (fun op => by rcases nil1 hv with ⟨rfl, rfl⟩ | ⟨x, rfl, rfl⟩ <;> cases op <;> rfl) (by rcases nil1 hv with ⟨rfl, rfl⟩ | ⟨x, rfl, rfl⟩ <;> simp [eqGuard, Act.eval])
  · exact nl_fin ho ht he rfl (eqN2 ht hv 9999 w) (fun op => by rcases nil2 hv with ⟨rfl, rfl⟩ | ⟨x, rfl, rfl⟩ <;> cases op <;> rfl) (by rcases nil2 hv with ⟨rfl, rfl⟩ | ⟨x, rfl, rfl⟩ <;> simp [eqGuard, Act.eval])
  · exact nl_fin ho ht he rfl (eqN3 ht hv 9999 w) (fun op => by rcases nil3 hv with ⟨rfl, rfl⟩ | ⟨x, n, c, rfl, rfl⟩ <;> cases op <;> rfl) (by rcases nil3 hv with ⟨rfl, rfl⟩ | ⟨x, n, c, rfl, rfl⟩ <;> simp [eqGuard, Act.eval])
  · exact nl_fin ho ht he rfl (eqN4 ht hv 9999 w) (fun op => by rcases nil4 hv with ⟨rfl, rfl⟩ | ⟨x, n, rfl, rfl⟩ <;> cases op <;> rfl) (by rcases nil4 hv with ⟨rfl, rfl⟩ | ⟨x, n, rfl, rfl⟩ <;> simp [eqGuard, Act.eval])
end
end Go.Ev
namespace Go.Ev
open Go Go.RowKit
variable {r : DV}
theorem ptrE_ok {v : AV} {k : Id → Nat → Res} {n : Res} {m : Nat} (h : ptrE v k n (bad m) = .ok r) : (∃ b o, v = .p b o ∧ k b o = .ok r) ∨ (v = .p0 ∧ n = .ok r) := by
  cases v <;> first | exact .inl ⟨_, _, rfl, h⟩ | exact .inr ⟨rfl, h⟩ | exact bad_ok h
theorem deqD_ok {a b : D8} : deqD a b = true ↔ a = b := by
  constructor
  · intro h; cases a <;> cases b <;> first | rfl | cases h
  · rintro rfl; cases a <;> rfl
theorem deqI_iff {a b : Id} : deqI a b = true ↔ a = b := by
  obtain ⟨a1, a2, a3, a4, a5⟩ := a
  obtain ⟨b1, b2, b3, b4, b5⟩ := b
  simp only [deqI, an_eq, Bool.and_eq_true, deqD_ok, Id.mk.injEq]
  constructor
  · rintro ⟨h5, h4, h3, h2, h1⟩; exact ⟨h1, h2, h3, h4, h5⟩
  · rintro ⟨h1, h2, h3, h4, h5⟩; exact ⟨h5, h4, h3, h2, h1⟩
section
variable {P : Program} {base N : Nat} {cl : Cl} {o : Oper} {u y : Operand}
theorem sameAddr_same (w : World) (b i j : Nat) : (sameAddr ⟨b, i, none⟩ ⟨b, j, none⟩).run P w = .ok (i == j) w := by
  simp only [sameAddr, beq_self_eq_true, if_true, Sem.run_pure]
  congr 1
  by_cases e : i = j
  · subst e; simp
  · rw [beq_false_of_ne e]
    rw [beq_eq_false_iff_ne]
    intro h; injection h with _ h _; exact e h
theorem sameAddr_other {w : World} {a b i j : Nat} {ca cb : Array Value} {ta tb : TypeId} {la ha lb hb : Nat} (hne : a ≠ b) (h1 : w.heap[a]? = some (.cells ca ta (la, ha))) (h2 : w.heap[b]? = some (.cells cb tb (lb, hb)))
    (f1 : ¬ (la ≤ i ∧ i < ha)) (f2 : ¬ (la ≤ ca.size ∧ ca.size < ha)) (hcb : cb.size ≠ 0) : (sameAddr ⟨a, i, none⟩ ⟨b, j, none⟩).run P w = .ok false w := by
  have hbl : (a == b) = false := beq_false_of_ne hne
  have s1 : w.shape? a = some (ta, ca.size) := by simp only [World.shape?, h1]
  have s2 : w.shape? b = some (tb, cb.size) := by simp only [World.shape?, h2]
  have z1 : w.frozen? ⟨a, i, none⟩ = false := by simp [World.frozen?, h1]; omega
  have z2 : w.frozen? ⟨a, ca.size, none⟩ = false := by simp [World.frozen?, h1]; omega
  cases z3 : w.frozen? ⟨b, j, none⟩ <;> cases z4 : w.frozen? ⟨b, cb.size, none⟩ <;> simp [sameAddr, hbl, hne, z1, z2, z3, z4, noView, viewAt, mayBeOne, stringish, s1, s2, hcb]
theorem eqP {t e : TypeId} (ht : P.underlying t = some (.pointer e)) {i : TypeInfo} (hi : P.info? e = some i) (hz : i.size ≠ 0) {p q : Addr} {b : Bool} {w : World} (hs : (sameAddr p q).run P w = .ok b w) (n : Nat) : (Op.equalIn (n + 1) t (.pointer (some p)) (.pointer (some q))).run P w = .ok b w := by
  simp [Op.equalIn, run_under ht, run_size hi, hz, hs]
theorem eqP1 {t e : TypeId} (ht : P.underlying t = some (.pointer e)) {p : Addr} {w : World} (n : Nat) : (Op.equalIn (n + 1) t (.pointer (some p)) (.pointer none)).run P w = .ok false w := by
  simp [Op.equalIn, run_under ht]
theorem eqP2 {t e : TypeId} (ht : P.underlying t = some (.pointer e)) {q : Option Addr} {w : World} (n : Nat) : (Op.equalIn (n + 1) t (.pointer none) (.pointer q)).run P w = .ok q.isNone w := by
  simp [Op.equalIn, run_under ht]
theorem pq_ok {t t2 e : TypeId} {neg : Bool} (ho : o.op = .binOp (if neg then .neq else .eql) t u y t2) (hu : okO P u = true) (hy : okO P y = true) (ht : P.underlying t = some (.pointer e)) {i : TypeInfo} (hi : P.info? e = some i) (hz : i.size ≠ 0) :
    XS P base N cl (xPq (noByte P) neg (opA u) (opA y)) o := .pure fun F h k ρ w a fr s hx => by
  have r1 := opA_ok fr s hu
  have r2 := opA_ok fr s hy
  have fin : ∀ {z : DV} (p q : Option Addr) (b : Bool), a.eval u = .pointer p → a.eval y = .pointer q → (Op.equalIn (9999 + 1) t (.pointer p) (.pointer q)).run P w = .ok b w → k (.b (if neg then !b else b)) h = .ok z →
      ∃ v v', RV P ρ v v' ∧ k v h = .ok z ∧ (execOp a.eval o).run P w = .ok (.value v') w := fun {z} p q b e1 e2 hb hk =>
    ⟨_, .bool (if neg then !b else b), by simp only [RV], hk, nl_fin ho ht e1 e2 hb (fun op => by cases op <;> rfl) (by simp [eqGuard])⟩
  have hx' : ptrE (opA u F) (fun b o => ptrE (opA y F) (fun c q => cif (deqI b c) (bF (cif neg (nt (Nat.beq o q)) (Nat.beq o q)) fun v => k v h)
      (cellsAt b h fun own e n _ => cellsAt c h fun own2 _ n2 _ => cif (an own (an own2 (an (Nat.ble o n) (an (Nat.ble 1 n2) (noByte P e))))) (bF neg fun v => k v h) (bad 158)))
      (bF neg fun v => k v h) (bad 158))
    (ptrE (opA y F) (fun _ _ => bF neg fun v => k v h) (bF (nt neg) fun v => k v h) (bad 158)) (bad 158) = _ := hx
  rcases ptrE_ok hx' with ⟨b, i1, hb, hx1⟩ | ⟨hb, hx1⟩
  · rw [hb] at r1
    simp only [RV] at r1
    obtain ⟨a1, q1, e1⟩ := r1
    rcases ptrE_ok hx1 with ⟨c, i2, hc, hx2⟩ | ⟨hc, hx2⟩
    · rw [hc] at r2
      simp only [RV] at r2
      obtain ⟨a2, q2, e2⟩ := r2
      rw [cif_eq] at hx2
      rcases ite_ok hx2 with ⟨hd, hx3⟩ | ⟨hd, hx3⟩
      · have hbc := deqI_iff.1 hd
        subst hbc
        rw [q1] at q2; cases q2
        rw [bF_eq] at hx3
        refine fin _ _ (i1 == i2) e1 e2 ?_ ?_
        · have hs := sameAddr_same (P := P) w a1 (ρ.off b + i1) (ρ.off b + i2)
          have e0 : (ρ.off b + i1 == ρ.off b + i2) = (i1 == i2) := by
            rw [Bool.eq_iff_iff]; simp
          rw [e0] at hs
          exact eqP ht hi hz hs 9999
        · have e0 : (cif neg (nt (Nat.beq i1 i2)) (Nat.beq i1 i2)) = (if neg then !(i1 == i2) else (i1 == i2)) := by
            rw [cif_eq, nt_eq]
            have : Nat.beq i1 i2 = (i1 == i2) := by rw [Bool.eq_iff_iff, Nat.beq_eq]; simp
            rw [this]
          rw [← e0]; exact hx3
      · obtain ⟨own, e1', n, ct, g1, hx4⟩ := cellsAt_ok hx3
        obtain ⟨own2, e2', n2, ct2, g2, hx5⟩ := cellsAt_ok hx4
        rw [cif_eq] at hx5
        obtain ⟨hc1, hx6⟩ := ite_bad hx5
        simp only [an_eq, Bool.and_eq_true, Nat.ble_eq] at hc1
        obtain ⟨rfl, rfl, hn, hn2, hnb⟩ := hc1
        obtain ⟨k1, k2, k3, cs, lo, hi', hw, k5, k6, k7, k8⟩ := s.cells q1 g1
        obtain ⟨m1, m2, m3, cs2, lo2, hi2, hw2, m5, m6, m7, m8⟩ := s.cells q2 g2
        have z1 := s.zero q1 g1
        have hne : a1 ≠ a2 := fun q => by
          subst q
          exact hd (deqI_iff.2 (s.inj b c a1 q1 q2 (.inl ⟨_, _, _, g1⟩) (by unfold Live; rw [g2]; exact fun q => by cases q)))
        have hbyte : P.underlying e1' ≠ some (.int .u8) := by
          intro q
          unfold noByte at hnb
          rw [q] at hnb; cases hnb
        have hf := (k8 rfl).2
        rw [z1, Nat.zero_add] at e1
        rw [bF_eq] at hx6
        refine fin _ _ false e1 e2 ?_ (by cases neg <;> exact hx6)
        have hs := sameAddr_other (P := P) (j := ρ.off c + i2) (i := i1) hne hw hw2 (by
          by_cases hlt : i1 < cs.size
          · exact hf i1 (.inl hlt)
          · have : i1 = cs.size := by omega
            exact hf i1 (.inr ⟨this, hbyte⟩)) (hf _ (.inr ⟨rfl, hbyte⟩)) (by omega)
        exact eqP ht hi hz hs 9999
    · rw [hc] at r2
      simp only [RV] at r2
      rw [bF_eq] at hx2
      exact fin _ _ false e1 r2 (eqP1 ht 9999) (by cases neg <;> exact hx2)
  · rw [hb] at r1
    simp only [RV] at r1
    rcases ptrE_ok hx1 with ⟨c, i2, hc, hx2⟩ | ⟨hc, hx2⟩
    · rw [hc] at r2
      simp only [RV] at r2
      obtain ⟨a2, q2, e2⟩ := r2
      rw [bF_eq] at hx2
      exact fin _ _ false r1 e2 (eqP2 ht 9999) (by cases neg <;> exact hx2)
    · rw [hc] at r2
      simp only [RV] at r2
      rw [bF_eq] at hx2
      exact fin _ _ true r1 r2 (eqP2 ht 9999) (by cases neg <;> exact hx2)
end
end Go.Ev

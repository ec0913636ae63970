/- Part of the proof of CompileForCardSaid. -/
import Derived.Test.YthhgndcpeeifeaaGreatDoorE04
set_option linter.unusedVariables false
set_option linter.unusedSimpArgs false
set_option linter.unusedSectionVars false
set_option linter.constructorNameAsVariable false
namespace Go.Ev
open Go Go.RowKit
variable {r : DV}
section
variable {P : Program} {base N : Nat} {cl : Cl} {o : Oper} {u y c : Operand}
theorem hpNew_ok {x : AObj} {h : Hp} {k : Id → Hp → Res} (hx : h.new x k = .ok r) : h.nx < 32768 ∧ k (idOf h.nx) ⟨hput (idOf h.nx) x h.t, Nat.succ h.nx⟩ = .ok r := by
  obtain ⟨ht, hn⟩ := h
  have hx' : cif (Nat.ble 32768 hn) (Res.bad 9 .u) (idF (idOf hn) fun i => k i ⟨hput i x ht, Nat.succ hn⟩) = .ok r := hx
  rw [cif_eq, idF_eq] at hx'
  rcases ite_ok hx' with ⟨_, hx'⟩ | ⟨h2, hx'⟩
  · exact bad_ok hx'
  · exact ⟨Nat.lt_of_not_le fun q => h2 (Nat.ble_eq_true_of_le q), hx'⟩
theorem mkM_ok {t : TypeId} (ho : o.op = .makeMap t none) : XS P base N cl xMkM o := .of fun F h k ρ w a fr s hx => by
  obtain ⟨hn, hx⟩ := hpNew_ok hx
  have st := Stp.new s hn (ob := .map #[] 0) (o := .m [] 0) (w' := w.alloc (.map #[] 0)) rfl (csz := 0) (ext := 0) (ty := 0) (fun ρ' _ _ => ⟨s.bs, #[], by show (w.heap.push (Obj.map #[] 0))[w.heap.size]? = _; exact Array.getElem?_push_size, .nil⟩)
  exact ⟨_, _, _, .map (some w.heap.size), _, st, by simp only [RV]; exact ⟨_, by simp [Rn.add], rfl⟩, hx, by simp [execOp, ho, Instr.makeMap, newObj]; rfl⟩
theorem Sim.map {ρ : Rn} {h : Hp} {w : World} (s : Sim P base ρ h w) {b : Id} {q : Nat} (hq : ρ.blk b = some q) {es : List (AV × AV)} {ck : Nat} (hb : hat b h.t = .m es ck) :
    base ≤ q ∧ ∃ es', w.heap[q]? = some (.map es' ck) ∧ MR P ρ es es' := by
  have := s.ob b q hq
  rw [hb] at this
  exact this
theorem run_getObj {w : World} {q ck : Nat} {es : Array MapEntry} (h : w.heap[q]? = some (.map es ck)) : (getObj q).run P w = .ok (.map es ck) w := by
  simp [getObj, Sem.run, h]
theorem lenM_ok {t e : TypeId} {cc : Call} (ho : o.op = .call cc) (hc : cc.callee = .builtin .len) (ha : cc.args = #[u]) (hu : okO P u = true) (ht : (cc.argTypes[0]?).bind P.underlying = some (.map t e)) : XS P base N cl (xLenM (opA u)) o := .pure fun F h k ρ w a fr s hx => by
  have rc := opA_ok fr s hu
  obtain ⟨t0, ht0, hut⟩ := Option.bind_eq_some_iff.1 ht
  cases hv : opA u F with
  | m0 =>
    rw [hv] at rc; simp only [RV] at rc
    simp only [xLenM, hv] at hx
    exact ⟨_, .int .i64 (0 : Nat), by simp only [RV]; rfl, hx, by simp [execOp, ho, resolve, hc, ha, invoke, builtin, Builtin.len_, ht0, run_under hut, rc, goInt]⟩
  | m b =>
    rw [hv] at rc; simp only [RV] at rc
    obtain ⟨q, hq, he⟩ := rc
    simp only [xLenM, hv] at hx
    cases hb : hat b h.t with
    | m es ck =>
      simp only [hb, natF_eq] at hx
      obtain ⟨_, es', e1, e2⟩ := s.map hq hb
      refine ⟨_, .int .i64 (es.length : Nat), by simp only [RV]; rfl, hx, ?_⟩
      rw [e2.size]
      simp [execOp, ho, resolve, hc, ha, invoke, builtin, Builtin.len_, ht0, run_under hut, he, goInt, run_getObj e1]
    | _ => simp only [hb] at hx; exact bad_ok hx
  | _ => simp only [xLenM, hv] at hx; exact bad_ok hx
/-! keys -/
/-- Entries, one by one. -/
def ER (P : Program) (ρ : Rn) : List (AV × AV) → List MapEntry → Prop
  | [], l => l = []
  | p :: r, l => ∃ e y, l = e :: y ∧ RV P ρ p.1 e.key ∧ RV P ρ p.2 e.val ∧ ER P ρ r y
theorem MP.list {ρ : Rn} : ∀ {es : List (AV × AV)} {es' : List MapEntry}, es.length = es'.length → (∀ j, j < es.length → ∃ e, es'[j]? = some e ∧ RV P ρ (es.getD j (.u, .u)).1 e.key ∧ RV P ρ (es.getD j (.u, .u)).2 e.val) → ER P ρ es es'
  | [], [], _, _ => rfl
  | p :: r, e :: y, hl, h => by
    obtain ⟨e', h1, h2, h3⟩ := h 0 (by simp)
    simp at h1
    subst h1
    exact ⟨e, y, rfl, h2, h3, MP.list (by simpa using hl) fun j hj => by simpa using h (j + 1) (by simpa using hj)⟩
theorem MP.er {ρ : Rn} {es : List (AV × AV)} {es' : Array MapEntry} (m : MP P ρ es es') : ER P ρ es es'.toList :=
  MP.list (by simpa using m.size) fun j hj => by simpa using m.ent j hj
theorem eqKi_ok {ρ : Rn} {h : Hp} {w : World} (s : Sim P base ρ h w) {kd : IntKind} {a b : AV} {a' b' : Value} {x : Bool} (ha : RV P ρ a a') (hb : RV P ρ b b') (hx : eqKi a b = some x) : Instr.sameNow (.int kd) a' b' = some x := by
  unfold eqKi at hx
  split at hx
  · rename_i k1 m k2 n
    simp only [RV] at ha hb
    subst ha hb
    cases hk : Nat.beq (kn k1) (kn k2) with
    | false => rw [hk] at hx; cases hx
    | true =>
      rw [hk] at hx
      have := kn_inj hk
      subst this
      cases hx
      simp [Instr.sameNow, ieq_eq, Bool.beq_eq_decide_eq]
  · rename_i p q
    cases hk : an (Nat.beq p q) (nt (yOdd p)) with
    | false => rw [hk] at hx; cases hx
    | true =>
      rw [hk] at hx; cases hx
      simp only [an_eq, nt_eq, Bool.and_eq_true, Nat.beq_eq, Bool.not_eq_true', yOdd] at hk
      obtain ⟨rfl, hk⟩ := hk
      have hp : p % 2 = 0 := by
        rcases Nat.mod_two_eq_zero_or_one p with e | e
        · exact e
        · have e' : Nat.mod p 2 = 1 := e
          rw [e'] at hk
          exact absurd hk (by decide)
      obtain ⟨n, e1⟩ := RV_even s ha hp
      have e2 : b' = a' := by simp only [RV] at ha hb; rw [ha.1, hb.1]
      rw [e2, e1]
      simp [Instr.sameNow]
  · cases hx
theorem eqKb_ok {ρ : Rn} {a b : AV} {a' b' : Value} {x : Bool} (ha : RV P ρ a a') (hb : RV P ρ b b') (hx : eqKb a b = some x) : Instr.sameNow .bool a' b' = some x := by
  unfold eqKb at hx
  split at hx
  · rename_i p q
    simp only [RV] at ha hb
    subst ha hb
    cases hx
    cases p <;> cases q <;> rfl
  · cases hx
theorem beq_bytes (s1 s2 : ByteArray) : (s1 == s2) = (s1.toList == s2.toList) := by
  have e : (s1 == s2) = (s1.data == s2.data) := by cases s1; cases s2; rfl
  rw [e, ByteArray.toList_eq, ByteArray.toList_eq, Bool.eq_iff_iff, beq_iff_eq, beq_iff_eq]
  exact Array.toList_inj.symm
theorem eqKs_ok {ρ : Rn} {h : Hp} {w : World} (s : Sim P base ρ h w) {a b : AV} {a' b' : Value} {x : Bool} (ha : RV P ρ a a') (hb : RV P ρ b b') (hx : eqKs a b = some x) :
    ∃ s1 s2, a' = .string s1 ∧ b' = .string s2 ∧ x = (s1 == s2) := by
  unfold eqKs at hx
  split at hx
  · rename_i n c m d
    simp only [RV] at ha hb
    obtain ⟨s1, e1, h1, g1⟩ := ha
    obtain ⟨s2, e2, h2, g2⟩ := hb
    refine ⟨s1, s2, e1, e2, ?_⟩
    cases hx
    rw [beq_bytes, an_eq, ByteArray.toList_eq, ByteArray.toList_eq, Bool.eq_iff_iff]
    simp only [Bool.and_eq_true, Nat.beq_eq, beq_iff_eq]
    constructor
    · rintro ⟨q1, q2⟩
      exact encB_inj (by rw [h1, h2]; exact q1) (by rw [g1, g2]; exact q2)
    · intro q
      exact ⟨by rw [← h1, ← h2, q], by rw [← g1, ← g2, q]⟩
  · obtain ⟨s1, s2, e1, e2, e3⟩ := eqY_ok s ha hb hx
    exact ⟨s1, s2, e1, e2, by rw [beq_bytes]; exact e3⟩
/-! finding -/
theorem obF_ok {o : Option Bool} {k : Bool → Res} (h : obF o k = .ok r) : ∃ b, o = some b ∧ k b = .ok r := by
  unfold obF at h
  split at h
  · exact ⟨true, rfl, h⟩
  · exact ⟨false, rfl, h⟩
  · exact bad_ok h
theorem find_cons (q : AV → AV → Option Bool) (key a v : AV) (es : List (AV × AV)) (k : Option AV → Res) : find q key ((a, v) :: es) k = obF (q key a) fun b => cif b (k (some v)) (find q key es k) := rfl
/-- Where a key stands. -/
def Stands (q : AV → AV → Option Bool) (key : AV) (es : List (AV × AV)) (j : Nat) (a v : AV) : Prop :=
  es[j]? = some (a, v) ∧ q key a = some true ∧ ∀ i, i < j → ∃ p, es[i]? = some p ∧ q key p.1 = some false
theorem find_ok {q : AV → AV → Option Bool} {key : AV} {k : Option AV → Res} : ∀ (es : List (AV × AV)), find q key es k = .ok r →
    (k none = .ok r ∧ ∀ p ∈ es, q key p.1 = some false) ∨ ∃ j a v, k (some v) = .ok r ∧ Stands q key es j a v
  | [], h => .inl ⟨h, fun p hp => by cases hp⟩
  | (a, v) :: es, h => by
    rw [find_cons] at h
    obtain ⟨b, hb, h⟩ := obF_ok h
    rw [cif_eq] at h
    cases b with
    | true => exact .inr ⟨0, a, v, by simpa using h, rfl, hb, fun i hi => absurd hi (Nat.not_lt_zero _)⟩
    | false =>
      rcases find_ok es (by simpa using h) with ⟨h1, h2⟩ | ⟨j, a', v', h1, h2, h3, h4⟩
      · exact .inl ⟨h1, fun p hp => by rcases List.mem_cons.1 hp with rfl | hp; exact hb; exact h2 p hp⟩
      · refine .inr ⟨j + 1, a', v', h1, by simpa using h2, h3, fun i hi => ?_⟩
        cases i with
        | zero => exact ⟨_, rfl, hb⟩
        | succ i => obtain ⟨p, g1, g2⟩ := h4 i (by omega); exact ⟨p, by simpa using g1, g2⟩
theorem upd_set {q : AV → AV → Option Bool} {key a v val : AV} : ∀ (es : List (AV × AV)) (j : Nat), Stands q key es j a v → upd q key val es = es.set j (key, val)
  | [], j, h => by simp [Stands] at h
  | (a', v') :: es, 0, h => by
    obtain ⟨h1, h2, _⟩ := h
    simp at h1
    obtain ⟨rfl, rfl⟩ := h1
    simp [upd, h2]
  | (a', v') :: es, j + 1, h => by
    obtain ⟨h1, h2, h3⟩ := h
    obtain ⟨p, g1, g2⟩ := h3 0 (by omega)
    simp at g1; subst g1
    have := upd_set (val := val) es j ⟨by simpa using h1, h2, fun i hi => by obtain ⟨p, g1, g2⟩ := h3 (i + 1) (by omega); exact ⟨p, by simpa using g1, g2⟩⟩
    simp only [upd, g2, this, List.set_cons_succ]
/-! keys that are known numbers: the order is nothing -/
/-- What is once compared with a known number is one. -/
def QI (q : AV → AV → Option Bool) : Prop := ∀ (key : AV) (n : Int) (x : Bool), q key (.i .i64 n) = some x → ∃ m : Int, key = .i .i64 m ∧ ∀ n' : Int, q key (.i .i64 n') = some (decide (m = n'))
theorem find_int {q : AV → AV → Option Bool} {key : AV} {k : Option AV → Res} {m : Int} (hm : ∀ n' : Int, q key (.i .i64 n') = some (decide (m = n'))) : ∀ (es : List (AV × AV)), (∀ e ∈ es, ∃ n, e.1 = .i .i64 n) → (es.map (·.1)).Nodup →
    (∀ v, (.i .i64 m, v) ∈ es → find q key es k = k (some v)) ∧ ((∀ e ∈ es, e.1 ≠ .i .i64 m) → find q key es k = k none)
  | [], _, _ => ⟨fun v hv => by simp at hv, fun _ => rfl⟩
  | (a, v) :: es, h1, h2 => by
    obtain ⟨n, hn⟩ := h1 (a, v) (by simp)
    simp only at hn; subst hn
    simp only [List.map_cons, List.nodup_cons] at h2
    obtain ⟨g1, g2⟩ := find_int hm es (fun e he => h1 e (by simp [he])) h2.2
    rw [find_cons, hm]
    constructor
    · intro v' hv
      rcases List.mem_cons.1 hv with e | hw
      · cases e; simp [obF]
      · have : m ≠ n := fun e => by subst e; exact h2.1 (List.mem_map.2 ⟨(.i .i64 m, v'), hw, rfl⟩)
        simp only [decide_eq_false this, obF, cif_eq]
        simpa using g1 v' hw
    · intro hno
      have : m ≠ n := fun e => by subst e; exact hno (.i .i64 m, v) (by simp) rfl
      simp only [decide_eq_false this, obF, cif_eq]
      simpa using g2 fun e he => hno e (by simp [he])
theorem find_perm {q : AV → AV → Option Bool} (hq : QI q) {key : AV} {k : Option AV → Res} {l es : List (AV × AV)} (hp : l.Perm es) (hd : KD es) (h : find q key es k = .ok r) :
    find q key l k = .ok r ∧ (es = [] ∨ ∃ m : Int, key = .i .i64 m ∧ ∀ n' : Int, q key (.i .i64 n') = some (decide (m = n'))) := by
  cases es with
  | nil => rw [hp.eq_nil]; exact ⟨h, .inl rfl⟩
  | cons e es =>
    obtain ⟨a, v⟩ := e
    have hl : ∀ e ∈ l, ∃ n, e.1 = .i .i64 n := fun e he => hd.1 e (hp.mem_iff.1 he)
    have hn : (l.map (·.1)).Nodup := (hp.map _).nodup_iff.2 hd.2
    obtain ⟨n, hn'⟩ := hd.1 (a, v) (by simp)
    simp only at hn'; subst hn'
    obtain ⟨x, hx, _⟩ := obF_ok (show obF _ _ = _ from h)
    obtain ⟨m, hkey, hm⟩ := hq _ _ _ hx
    obtain ⟨g1, g2⟩ := find_int (k := k) hm _ hd.1 hd.2
    obtain ⟨l1, l2⟩ := find_int (k := k) hm l hl hn
    refine ⟨?_, .inr ⟨m, hkey, hm⟩⟩
    by_cases hex : ∃ v', (AV.i .i64 m, v') ∈ (AV.i .i64 n, v) :: es
    · obtain ⟨v', hv⟩ := hex
      rw [l1 v' (hp.mem_iff.2 hv), ← g1 v' hv]; exact h
    · have hno : ∀ e ∈ (AV.i .i64 n, v) :: es, e.1 ≠ .i .i64 m := fun e he e2 => hex ⟨e.2, by rw [← e2]; exact he⟩
      rw [l2 fun e he => hno e (hp.mem_iff.1 he), ← g2 hno]; exact h
noncomputable def updI (m : Int) (key val : AV) (e : AV × AV) : AV × AV := match e.1 with
  | .i _ n => if m = n then (key, val) else e
  | _ => e
theorem upd_int {q : AV → AV → Option Bool} {key val : AV} {m : Int} (hm : ∀ n' : Int, q key (.i .i64 n') = some (decide (m = n'))) : ∀ (es : List (AV × AV)), (∀ e ∈ es, ∃ n, e.1 = .i .i64 n) → (es.map (·.1)).Nodup →
    upd q key val es = es.map (updI m key val)
  | [], _, _ => rfl
  | (a, v) :: es, h1, h2 => by
    obtain ⟨n, hn⟩ := h1 (a, v) (by simp)
    simp only at hn; subst hn
    simp only [List.map_cons, List.nodup_cons] at h2
    simp only [upd, hm]
    by_cases e : m = n
    · subst e
      have : es.map (updI m key val) = es := by
        have h3 : ∀ p ∈ es, updI m key val p = p := fun p hp => by
          obtain ⟨n', hn'⟩ := h1 p (by simp [hp])
          have : m ≠ n' := fun e => h2.1 (List.mem_map.2 ⟨p, hp, by rw [hn', e]⟩)
          simp [updI, hn', this]
        exact (List.map_congr_left h3).trans (List.map_id' es)
      simp [updI, this]
    · simp only [decide_eq_false e]
      rw [upd_int hm es (fun p hp => h1 p (by simp [hp])) h2.2]
      simp [updI, e]
/-- What is known of keys of a type. -/
structure KeyOk (P : Program) (base : Nat) (kt : TypeId) (q : AV → AV → Option Bool) (fl : Bool) : Prop where
  qi : QI q
  check : ∀ {ρ : Rn} {h : Hp} {w : World}, Sim P base ρ h w → ∀ {a : AV} {a' : Value}, RV P ρ a a' → (fl = true → q a a = some true) → ∀ (e : Bool) (w' : World), (Instr.checkKey e 10000 kt a').run P w' = .ok () w'
  find : ∀ {ρ : Rn} {h : Hp} {w : World}, Sim P base ρ h w → ∀ {key : AV} {key' : Value}, RV P ρ key key' → ∀ (es : List (AV × AV)) (es' : List MapEntry), ER P ρ es es' → ∀ (w' : World),
    ((∀ p ∈ es, q key p.1 = some false) → (Instr.findKey kt key' es').run P w' = .ok none w') ∧
    ∀ j a v, Stands q key es j a v → ∃ e, es'[j]? = some e ∧ RV P ρ a e.key ∧ RV P ρ v e.val ∧ (Instr.findKey kt key' es').run P w' = .ok (some (j, e.val)) w'
  bits : ∀ {ρ : Rn} {h : Hp} {w : World}, Sim P base ρ h w → ∀ {a b : AV} {a' b' : Value}, RV P ρ a a' → RV P ρ b b' → q a b = some true → Instr.sameBits 10000 b' a' = true
/-! numbers, texts, truths -/
theorem findNow_ok {ρ : Rn} {d : TypeDesc} {q : AV → AV → Option Bool} {key : AV} {key' : Value}
    (hq : ∀ (b : AV) (b' : Value) (x : Bool), RV P ρ b b' → q key b = some x → Instr.sameNow d key' b' = some x) : ∀ (es : List (AV × AV)) (es' : List MapEntry) (i : Nat), ER P ρ es es' →
    ((∀ p ∈ es, q key p.1 = some false) → Instr.findNow d key' es' i = some none) ∧
    ∀ j a v, Stands q key es j a v → ∃ e, es'[j]? = some e ∧ RV P ρ a e.key ∧ RV P ρ v e.val ∧ Instr.findNow d key' es' i = some (some (i + j, e.val))
  | [], es', i, he => by
    cases (show es' = [] from he)
    exact ⟨fun _ => rfl, fun j a v h => by simp [Stands] at h⟩
  | (a0, v0) :: es, es', i, he => by
    obtain ⟨e, y, rfl, h1, h2, h3⟩ := he
    obtain ⟨g1, g2⟩ := findNow_ok hq es y (i + 1) h3
    refine ⟨fun hno => ?_, fun j a v hs => ?_⟩
    · have := hq a0 e.key false h1 (hno (a0, v0) (by simp))
      simp only [Instr.findNow, this]
      exact g1 fun p hp => hno p (by simp [hp])
    · obtain ⟨s1, s2, s3⟩ := hs
      cases j with
      | zero =>
        simp at s1
        obtain ⟨rfl, rfl⟩ := s1
        have := hq _ e.key true h1 s2
        exact ⟨e, rfl, h1, h2, by simp [Instr.findNow, this]⟩
      | succ j =>
        obtain ⟨p, t1, t2⟩ := s3 0 (by omega)
        simp at t1; subst t1
        have := hq _ e.key false h1 t2
        obtain ⟨e', q1, q2, q3, q4⟩ := g2 j a v ⟨by simpa using s1, s2, fun i hi => by obtain ⟨p, t1, t2⟩ := s3 (i + 1) (by omega); exact ⟨p, by simpa using t1, t2⟩⟩
        exact ⟨e', by simpa using q1, q2, q3, by simp only [Instr.findNow, this, q4]; congr 3; omega⟩
theorem run_findKey {kt : TypeId} {d : TypeDesc} (hd : P.underlying kt = some d) {key : Value} {es : List MapEntry} {x : Option (Nat × Value)} (hf : Instr.findNow d key es 0 = some x) (w : World) : (Instr.findKey kt key es).run P w = .ok x w := by
  simp [Instr.findKey, run_under hd, hf]
/-- A kind of key that is looked for at once and needs no look at itself. -/
def Plain (d : TypeDesc) : Prop := (∃ kd, d = .int kd) ∨ d = .string ∨ d = .bool
theorem run_checkKey {kt : TypeId} {d : TypeDesc} (hd : P.underlying kt = some d) (hp : Plain d) (e : Bool) (n : Nat) (v : Value) (w : World) : (Instr.checkKey e (n + 1) kt v).run P w = .ok () w := by
  rcases hp with ⟨kd, rfl⟩ | rfl | rfl <;> (unfold Instr.checkKey; simp [run_under hd])
theorem same_bits {d : TypeDesc} {a b : Value} (h : Instr.sameNow d a b = some true) (n : Nat) : Instr.sameBits n b a = true := by
  unfold Instr.sameNow at h
  split at h
  · split at h
    · rename_i hk; subst hk; simp at h; subst h; cases n <;> simp [Instr.sameBits]
    · cases h
  · rename_i s1 s2
    have h' : (s1 == s2) = true := by simpa using h
    have : (s2 == s1) = true := by rw [beq_bytes] at h' ⊢; simp at h' ⊢; exact h'.symm
    cases n <;> simp [Instr.sameBits, this]
  · simp at h; subst h; cases n <;> simp [Instr.sameBits]
  · cases h
theorem key_plain {kt : TypeId} {d : TypeDesc} {q : AV → AV → Option Bool} (hd : P.underlying kt = some d) (hp : Plain d) (hqi : QI q)
    (hq : ∀ {ρ : Rn} {h : Hp} {w : World}, Sim P base ρ h w → ∀ (a b : AV) (a' b' : Value) (x : Bool), RV P ρ a a' → RV P ρ b b' → q a b = some x → Instr.sameNow d a' b' = some x) : KeyOk P base kt q false :=
  ⟨hqi, fun _ _ _ _ _ e w' => run_checkKey hd hp e 9999 _ w', fun s key key' rk es es' he w' => by
      obtain ⟨g1, g2⟩ := findNow_ok (d := d) (fun b b' x hb hqq => hq s _ _ _ _ x rk hb hqq) es es' 0 he
      exact ⟨fun hno => run_findKey hd (g1 hno) w', fun j a v hs => by
        obtain ⟨e, q1, q2, q3, q4⟩ := g2 j a v hs
        rw [Nat.zero_add] at q4
        exact ⟨e, q1, q2, q3, run_findKey hd q4 w'⟩⟩,
    fun s a b a' b' ha hb hx => same_bits (hq s _ _ _ _ true ha hb hx) 10000⟩
theorem qi_i : QI eqKi := fun key n x h => by
  unfold eqKi at h
  split at h
  · rename_i k1 m k2 n' e
    cases e
    cases hk : Nat.beq (kn k1) (kn .i64) with
    | false => rw [hk] at h; cases h
    | true =>
      have := kn_inj hk
      subst this
      exact ⟨m, rfl, fun n' => by simp only [eqKi, hk, cond_true, ieq_eq]⟩
  · rename_i e; cases e
  · cases h
theorem qi_s : QI eqKs := fun key n x h => by cases key <;> simp [eqKs, eqY] at h
theorem qi_b : QI eqKb := fun key n x h => by
  unfold eqKb at h
  split at h
  · rename_i e; cases e
  · cases h
theorem key_i {kt : TypeId} {kd : IntKind} (ht : P.underlying kt = some (.int kd)) : KeyOk P base kt eqKi false :=
  key_plain ht (.inl ⟨_, rfl⟩) qi_i fun s a b a' b' x ha hb hx => eqKi_ok s ha hb hx
theorem key_b {kt : TypeId} (ht : P.underlying kt = some .bool) : KeyOk P base kt eqKb false :=
  key_plain ht (.inr (.inr rfl)) qi_b fun _ a b a' b' x ha hb hx => eqKb_ok ha hb hx
theorem key_s {kt : TypeId} (ht : P.underlying kt = some .string) : KeyOk P base kt eqKs false :=
  key_plain ht (.inr (.inl rfl)) qi_s fun s a b a' b' x ha hb hx => by obtain ⟨s1, s2, rfl, rfl, rfl⟩ := eqKs_ok s ha hb hx; rfl
end
end Go.Ev
namespace Go.Ev
open Go Go.RowKit
variable {r : DV}
section
variable {P : Program} {base N : Nat} {cl : Cl} {o : Oper} {u y c : Operand}
theorem self_ok {q : AV → AV → Option Bool} {fl : Bool} {i : O} {x : X} {F : Fr} {h : Hp} {k : K} (hx : xSelf q fl i x cl F h k = .ok r) : (fl = true → q (i F) (i F) = some true) ∧ x cl F h k = .ok r := by
  unfold xSelf at hx
  rw [cif_eq] at hx
  cases fl with
  | false => exact ⟨fun e => (by cases e), by simpa using hx⟩
  | true =>
    rw [if_pos rfl] at hx
    obtain ⟨b, hb, hx⟩ := obF_ok hx
    rw [cif_eq] at hx
    cases b with
    | true => exact ⟨fun _ => hb, by simpa using hx⟩
    | false => exact bad_ok hx
theorem esOf_ok {ρ : Rn} {h : Hp} {w : World} (s : Sim P base ρ h w) {m : AV} {m' : Value} (rm : RV P ρ m m') {k : List (AV × AV) → Nat → Res} (hx : esOf m h k = .ok r) :
    (m' = .map none ∧ m = .m0 ∧ k [] 0 = .ok r) ∨ ∃ b q es es' ck, m = .m b ∧ hat b h.t = .m es ck ∧ ρ.blk b = some q ∧ m' = .map (some q) ∧ base ≤ q ∧ w.heap[q]? = some (.map es' ck) ∧ MR P ρ es es' ∧ k es ck = .ok r := by
  cases m with
  | m0 => simp only [RV] at rm; exact .inl ⟨rm, rfl, hx⟩
  | m b =>
    simp only [RV] at rm
    obtain ⟨q, hq, he⟩ := rm
    simp only [esOf] at hx
    cases hb : hat b h.t with
    | m es ck =>
      simp only [hb] at hx
      obtain ⟨h1, es', h2, h3⟩ := s.map hq hb
      exact .inr ⟨b, q, es, es', ck, rfl, hb, hq, he, h1, h2, h3, hx⟩
    | _ => simp only [hb] at hx; exact bad_ok hx
  | _ => exact bad_ok hx
/-- Found among the entries, in whatever order they stand. -/
theorem MR.find {ρ : Rn} {q : AV → AV → Option Bool} (hq : QI q) {es : List (AV × AV)} {es' : Array MapEntry} (m : MR P ρ es es') {key : AV} {k : Option AV → Res} (hx : find q key es k = .ok r) :
    ∃ l, MP P ρ l es' ∧ find q key l k = .ok r ∧ (l = es ∨ l.Perm es ∧ KD es ∧ (es = [] ∨ ∃ m : Int, key = .i .i64 m ∧ ∀ n' : Int, q key (.i .i64 n') = some (decide (m = n')))) := by
  obtain ⟨l, h1, rfl | ⟨h2, h3⟩⟩ := m
  · exact ⟨l, h1, hx, .inl rfl⟩
  · obtain ⟨g1, g2⟩ := find_perm hq h2 h3 hx
    exact ⟨l, h1, g1, .inr ⟨h2, h3, g2⟩⟩
noncomputable def lkK (z : AV) (ok : Bool) (h : Hp) (k : K) (x : Option AV) : Res := match x, ok with
  | some v, true => k (.t [v, .b true]) h
  | some v, false => k v h
  | none, true => k (.t [z, .b false]) h
  | none, false => k z h
theorem lk_ok {t kt e : TypeId} {q : AV → AV → Option Bool} {fl ok : Bool} {i : TypeInfo} {z : Value} (ho : o.op = .lookup t u y ok) (hu : okO P u = true) (hy : okO P y = true) (ht : P.underlying t = some (.map kt e))
    (hq : KeyOk P base kt q fl) (hi : P.info? e = some i) (hz : i.zero = some z) : XS P base N cl (xSelf q fl (opA y) (xLk q (valA z) ok (opA u) (opA y))) o := .pure fun F h k ρ w a fr s hx => by
  have rm := opA_ok fr s hu
  have rk := opA_ok fr s hy
  obtain ⟨hself, hx⟩ := self_ok hx
  have fin : ∀ {r : DV} (es : List (AV × AV)) (es' : Array MapEntry), MR P ρ es es' →
      find q (opA y F) es (lkK (valA z) ok h k) = .ok r →
      ∃ v v' fk, RV P ρ v v' ∧ k v h = .ok r ∧ (Instr.findKey kt (a.eval y) es'.toList).run P w = .ok fk w ∧
        v' = (let p := match fk with | some (_, v) => (v, true) | none => (z, false); if ok then .tuple #[p.1, .bool p.2] else p.1) := by
    intro r es es' her hx
    obtain ⟨l, h1, h2, _⟩ := her.find hq.qi hx
    obtain ⟨f1, f2⟩ := hq.find s rk l es'.toList h1.er w
    rcases find_ok l h2 with ⟨g1, g2⟩ | ⟨j, a', v, g1, g2⟩
    · have rz := RV_valA (P := P) (ρ := ρ) z
      cases ok with
      | true => exact ⟨_, _, _, by simp only [RV, RL]; exact ⟨#[z, .bool false], rfl, _, _, rfl, rz, _, _, rfl, rfl, rfl⟩, g1, f1 g2, rfl⟩
      | false => exact ⟨_, _, _, rz, g1, f1 g2, rfl⟩
    · obtain ⟨en, _, _, q3, q4⟩ := f2 j a' v g2
      cases ok with
      | true => exact ⟨_, _, _, by simp only [RV, RL]; exact ⟨#[en.val, .bool true], rfl, _, _, rfl, q3, _, _, rfl, rfl, rfl⟩, g1, q4, rfl⟩
      | false => exact ⟨_, _, _, q3, g1, q4, rfl⟩
  rcases esOf_ok s rm hx with ⟨h1, _, hx⟩ | ⟨b, p, es, es', ck, h1, h2, h3, h4, h5, h6, h7, hx⟩
  · obtain ⟨v, v', fk, g1, g2, g3, rfl⟩ := fin [] #[] .nil hx
    refine ⟨v, _, g1, g2, ?_⟩
    have g3' : (Instr.findKey kt (a.eval y) []).run P w = .ok fk w := g3
    cases fk <;> cases ok <;> simp [execOp, ho, Instr.lookup, run_under ht, h1, hq.check s rk hself, g3', run_zero hi hz]
  · obtain ⟨v, v', fk, g1, g2, g3, rfl⟩ := fin es es' h7 hx
    refine ⟨v, _, g1, g2, ?_⟩
    cases fk <;> cases ok <;> simp [execOp, ho, Instr.lookup, run_under ht, h4, run_getObj h6, hq.check s rk hself, g3, run_zero hi hz]
theorem run_setObj {w : World} {q ck : Nat} {es : Array MapEntry} (hb : w.heap[q]? = some (.map es ck)) (ob : Obj) : (setObj q ob).run P w = .ok () { w with heap := w.heap.setIfInBounds q ob } := by
  simp [setObj, Sem.run, hb]
theorem MP.set {ρ : Rn} {l : List (AV × AV)} {es' : Array MapEntry} (m : MP P ρ l es') {j : Nat} {key val : AV} {key' val' : Value} (rk : RV P ρ key key') (rv : RV P ρ val val') :
    MP P ρ (l.set j (key, val)) (es'.modify j fun e => { e with key := key', val := val' }) := by
  refine ⟨by simpa using m.size, fun i hi => ?_⟩
  simp only [List.length_set] at hi
  obtain ⟨e, h1, h2, h3⟩ := m.ent i hi
  by_cases hij : j = i
  · subst hij
    refine ⟨{ e with key := key', val := val' }, by simp [Array.getElem?_modify, h1], ?_, ?_⟩
    · simpa [List.getD, hi] using rk
    · simpa [List.getD, hi] using rv
  · refine ⟨e, by rw [Array.getElem?_modify, if_neg hij, h1], ?_, ?_⟩
    · simpa [List.getD, List.getElem?_set_ne hij] using h2
    · simpa [List.getD, List.getElem?_set_ne hij] using h3
theorem MP.push {ρ : Rn} {l : List (AV × AV)} {es' : Array MapEntry} (m : MP P ρ l es') {key val : AV} {key' val' : Value} {bn : Nat} (rk : RV P ρ key key') (rv : RV P ρ val val') :
    MP P ρ (l ++ [(key, val)]) (es'.push { key := key', val := val', born := bn }) := by
  refine ⟨by simp [m.size], fun i hi => ?_⟩
  simp only [List.length_append, List.length_singleton] at hi
  by_cases hl : i < l.length
  · obtain ⟨e, h1, h2, h3⟩ := m.ent i hl
    have hne : i ≠ es'.size := by rw [← m.size]; omega
    exact ⟨e, by rw [Array.getElem?_push, if_neg hne]; exact h1, by simpa [List.getD, List.getElem?_append_left hl] using h2, by simpa [List.getD, List.getElem?_append_left hl] using h3⟩
  · have he : i = l.length := by omega
    subst he
    exact ⟨_, by rw [m.size]; simp; rfl, by simpa [List.getD] using rk, by simpa [List.getD] using rv⟩
theorem KD.upd {es : List (AV × AV)} (h : KD es) {m : Int} {val : AV} : KD (es.map (updI m (.i .i64 m) val)) := by
  have key : ∀ e ∈ es, (updI m (.i .i64 m) val e).1 = e.1 := fun e he => by
    obtain ⟨n, hn⟩ := h.1 e he
    simp only [updI, hn]
    split
    · rename_i hh; rw [hh]
    · exact hn
  refine ⟨fun e he => ?_, ?_⟩
  · obtain ⟨e', h1, rfl⟩ := List.mem_map.1 he
    rw [key e' h1]; exact h.1 e' h1
  · rw [List.map_map, show List.map ((fun x : AV × AV => x.1) ∘ updI m (.i .i64 m) val) es = es.map (·.1) from List.map_congr_left fun e he => key e he]; exact h.2
theorem keep_run {old new : Value} (h : Instr.sameBits 10000 old new = true) (w : World) : (Instr.keyThatStays old new).run P w = .ok new w := by
  simp [Instr.keyThatStays, h]
theorem mu_ok {t kt e : TypeId} {q : AV → AV → Option Bool} {fl : Bool} (ho : o.op = .insert t u y c ∨ o.op = .mapUpdate t u y c) (hu : okO P u = true) (hy : okO P y = true) (hc : okO P c = true) (ht : P.underlying t = some (.map kt e))
    (hq : KeyOk P base kt q fl) : XS P base N cl (xSelf q fl (opA y) (xMu q (opA u) (opA y) (opA c))) o := .ofSkip fun F h k ρ w a fr s hx => by
  have rm := opA_ok fr s hu
  have rk := opA_ok fr s hy
  have rc := opA_ok fr s hc
  obtain ⟨hself, hx⟩ := self_ok hx
  have hm : ∃ b, opA u F = .m b := by
    unfold xMu at hx
    cases hv : opA u F with
    | m b => exact ⟨b, rfl⟩
    | _ => rw [hv] at hx; exact bad_ok hx
  obtain ⟨b, hb⟩ := hm
  rw [hb] at rm
  simp only [xMu, hb] at hx
  rcases esOf_ok s rm hx with ⟨_, h2, _⟩ | ⟨b', p, es, es', ck, h1, h2, h3, h4, h5, h6, h7, hx⟩
  · cases h2
  · cases h1
    have hps : p < w.heap.size := s.lt b p h3
    have own : Own h b := .inr (.inl ⟨es, ck, h2⟩)
    obtain ⟨l, l1, l2, l3⟩ := h7.find hq.qi hx
    obtain ⟨f1, f2⟩ := hq.find s rk l es'.toList l1.er w
    have done : ∀ (es2 : List (AV × AV)) (ck2 : Nat) (en2 : Array MapEntry), MR P ρ es2 en2 → Stp P base ρ h w ρ ⟨hput b (.m es2 ck2) h.t, h.nx⟩ { w with heap := w.heap.setIfInBounds p (.map en2 ck2) } := fun es2 ck2 en2 hmr =>
      Stp.put s h3 own h5 (by simp) (fun k hk => by simp [Array.getElem?_setIfInBounds, Ne.symm hk]) ⟨h5, en2, by simp [Array.getElem?_setIfInBounds, hps], hmr⟩ (by simp) rfl rfl rfl
    have hexec : ∀ {w2 : World}, (Instr.mapUpdate t (a.eval u) (a.eval y) (a.eval c)).run P w = .ok () w2 → (execOp a.eval o).run P w = .ok .skip w2 := fun {w2} hh => by
      rcases ho with ho | ho <;> simp [execOp, ho, hh]
    rcases find_ok l l2 with ⟨g1, g2⟩ | ⟨j, a', v, g1, g2⟩
    · simp only [natF_eq] at g1
      refine ⟨ρ, _, _, done _ _ _ (?_ : MR P ρ (es ++ [(opA y F, opA c F)]) (es'.push { key := a.eval y, val := a.eval c, born := ck })), g1, hexec ?_⟩
      · refine ⟨l ++ [(opA y F, opA c F)], l1.push rk rc, ?_⟩
        rcases l3 with rfl | ⟨l3, l4, rfl | ⟨m, hm1, hm2⟩⟩
        · exact .inl rfl
        · rw [l3.eq_nil]; exact .inl rfl
        · refine .inr ⟨l3.append_right _, ?_, ?_⟩
          · intro e he
            rcases List.mem_append.1 he with he | he
            · exact l4.1 e he
            · rw [List.mem_singleton] at he; subst he; exact ⟨m, hm1⟩
          · rw [List.map_append, List.nodup_append]
            refine ⟨l4.2, by simp, ?_⟩
            intro x hx1 y' hy1 e
            simp at hy1
            subst e
            obtain ⟨e2, he2, he3⟩ := List.mem_map.1 hx1
            have := g2 e2 (l3.mem_iff.2 he2)
            rw [he3, hy1, hm1] at this
            have h9 := hm2 m
            rw [hm1] at h9
            rw [h9] at this
            simp at this
      · simp [Instr.mapUpdate, run_under ht, h4, run_getObj h6, hq.check s rk hself, f1 g2, run_setObj h6]
    · obtain ⟨en, q1, q2, q3, q4⟩ := f2 j a' v g2
      refine ⟨ρ, _, _, done _ _ _ (?_ : MR P ρ (upd q (opA y F) (opA c F) es) (es'.modify j fun e => { e with key := a.eval y, val := a.eval c })), g1, hexec ?_⟩
      · refine ⟨upd q (opA y F) (opA c F) l, ?_, ?_⟩
        · rw [upd_set l j g2]; exact l1.set rk rc
        · rcases l3 with rfl | ⟨l3, l4, rfl | ⟨m, hm1, hm2⟩⟩
          · exact .inl rfl
          · rw [l3.eq_nil]; exact .inl rfl
          · refine .inr ?_
            have hl : ∀ e ∈ l, ∃ n, e.1 = .i .i64 n := fun e he => l4.1 e (l3.mem_iff.1 he)
            have hn : (l.map (·.1)).Nodup := (l3.map _).nodup_iff.2 l4.2
            rw [upd_int hm2 l hl hn, upd_int hm2 es l4.1 l4.2]
            refine ⟨l3.map _, ?_⟩
            rw [hm1]; exact l4.upd
      · have q1' : es'[j]? = some en := by simpa using q1
        have hbits := hq.bits s rk q2 g2.2.1
        simp [Instr.mapUpdate, run_under ht, h4, run_getObj h6, hq.check s rk hself, q4, q1', keep_run hbits, run_setObj h6]
end
end Go.Ev

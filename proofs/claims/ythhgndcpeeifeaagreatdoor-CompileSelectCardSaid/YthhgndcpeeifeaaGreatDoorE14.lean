/- Part of the proof of CompileForCardSaid. -/
import Derived.Shelf.Strings.BuilderF
import Derived.Test.YthhgndcpeeifeaaGreatDoorE13
set_option linter.unusedVariables false
set_option linter.unusedSimpArgs false
set_option linter.unusedSectionVars false
set_option linter.constructorNameAsVariable false
namespace Go.Ev
open Go Go.Shelf Go.RowKit Go.Proofs
variable {P : Program} {ρ : Ren}
theorem rowAt_mono {f : TypeId → Bool} {d : Nat} {e : TypeId} {off c : Nat} (h : rowAt P f d e 1 off 1 = true) (hc : 1 ≤ c) : rowAt P f d e c off 1 = true := by
  cases d with
  | zero => cases h
  | succ d =>
    unfold rowAt at h ⊢
    simp only at h ⊢
    split at h
    · cases h
    · rename_i hs
      rw [if_neg hs]
      simp only [Bool.or_eq_true, Bool.and_eq_true, decide_eq_true_eq] at h ⊢
      rcases h with ⟨⟨h1, h2⟩, h3⟩ | ⟨h1, h2⟩
      · exact .inl ⟨⟨h1, by omega⟩, h3⟩
      · exact .inr ⟨by omega, h2⟩
theorem liesAt_mono {d : Nat} {e u : TypeId} {off c : Nat} (h : rowAt P (sameLayout P P.depth · u) P.depth e 1 off 1 = true) (hc : 1 ≤ c) : liesAt P (d + 1) e c off u 1 = true := by
  unfold liesAt
  rw [rowAt_mono h hc]; rfl
set_option maxHeartbeats 1000000 in
set_option maxRecDepth 100000 in
theorem copyCheck_used (L : Lays.n240 P ρ) (X : Builder.X72 P ρ) (b o : Nat) (w : World) (h0 : w.cell? ⟨b, o, none⟩ = some (.pointer (some ⟨b, o, none⟩))) :
    Calls P (ρ.f 240) #[.pointer (some ⟨b, o, none⟩)] w fun e w' => e = .returned (.tuple #[]) ∧ w' = w := by
  obtain ⟨j, hj, _⟩ := Option.map_eq_some_iff.1 X.sizeBuilder
  have mixed := L.mixed
  have t72 := L.t72; have a72 := L.a72; have z72 := L.z72; have v72 := L.v72; have u72 := run_underlying L.t72
  have t70 := L.t70; have a70 := L.a70; have z70 := L.z70; have v70 := L.v70; have u70 := run_underlying L.t70
  have t9 := L.t9; have a9 := L.a9; have z9 := L.z9; have v9 := L.v9; have u9 := run_underlying L.t9
  have t4 := L.t4; have a4 := L.a4; have z4 := L.z4; have v4 := L.v4; have u4 := run_underlying L.t4
  have t164 := L.t164; have a164 := L.a164; have z164 := L.z164; have v164 := L.v164; have u164 := run_underlying L.t164
  go_enter L.f240, Body.n240_ntmps ρ
  go_wp2
  rw [Lib.run_neq_ptr_same w _ L.t70 hj]
  go_wp2
  go_end0
  exact ⟨rfl, rfl⟩
set_option maxHeartbeats 1000000 in
set_option maxRecDepth 100000 in
theorem copyCheck_fresh (L : Lays.n240 P ρ) (X : Builder.X72 P ρ) (b o : Nat) (w : World) (h0 : w.cell? ⟨b, o, none⟩ = some (.pointer none)) {E : TypeId} {cells : Nat} (hsh : w.shape? b = some (E, cells)) (ho : o < cells)
    (hlies : liesAt P P.depth E (cells / P.cellsOf E) o (ρ.t 72) 1 = true) (hfz : w.frozen? ⟨b, o, none⟩ = false) :
    Calls P (ρ.f 240) #[.pointer (some ⟨b, o, none⟩)] w fun e w' => e = .returned (.tuple #[]) ∧ w' = w.setCell ⟨b, o, none⟩ (.pointer (some ⟨b, o, none⟩)) := by
  obtain ⟨j, hj, hjs⟩ := Option.map_eq_some_iff.1 X.sizeBuilder
  have mixed := L.mixed
  have t72 := L.t72; have a72 := L.a72; have z72 := L.z72; have v72 := L.v72; have u72 := run_underlying L.t72
  have t70 := L.t70; have a70 := L.a70; have z70 := L.z70; have v70 := L.v70; have u70 := run_underlying L.t70
  have t9 := L.t9; have a9 := L.a9; have z9 := L.z9; have v9 := L.v9; have u9 := run_underlying L.t9
  have t4 := L.t4; have a4 := L.a4; have z4 := L.z4; have v4 := L.v4; have u4 := run_underlying L.t4
  have t164 := L.t164; have a164 := L.a164; have z164 := L.z164; have v164 := L.v164; have u164 := run_underlying L.t164
  go_enter L.f240, Body.n240_ntmps ρ
  go_wp2
  rw [Lib.run_to_unsafe w ⟨b, o, none⟩ L.t70 L.t164 hj (by rw [hjs]; decide) hsh ho]
  simp only [Result.andThen]
  rw [Oper.upon_value]
  go_wp2
  rw [run_callFunc_extern L.f276 (by kernel_rfl) (by kernel_rfl) (by kernel_rfl) (e := Extern.AbiNoEscape.same) (by kernel_rfl)]
  rw [Lib.run_noEscape]
  simp only [Result.andThen]
  rw [Oper.upon_value]
  go_wp2
  rw [Lib.run_from_unsafe w ⟨b, o, none⟩ L.t164 L.t70 hj hsh hlies]
  simp only [Result.andThen]
  rw [Oper.upon_value]
  go_wp2
  go_end0
  exact ⟨rfl, rfl⟩
theorem wpList_app {ops : Array Oper} {rest : List Oper} {o : Oper} {a : Act} {w : World} {Q : Exit → Act → World → Prop} (hgd : o.guard = none) (sl x : Operand) (t u : TypeId)
    (ho : o.op = .call { callee := .builtin .append, args := #[sl, x], argTypes := #[t, u] }) (v' : Value) (w' : World) (hr : (Builtin.append_ #[t, u] o.type #[a.eval sl, a.eval x]).run P w = .ok v' w') (h : wpList P ops Q rest (a.put o.dst v') w') :
    wpList P ops Q (o :: rest) a w := by
  refine wpList_plain hgd fun K hK => ?_
  unfold Oper.wp execOp
  simp only [ho, resolve, invoke, builtin, Sem.run_bind, Sem.run_pure, Result.andThen_ok, List.map_toArray, List.map_cons, List.map_nil, hr]
  exact hK _ _ h
set_option maxHeartbeats 2000000 in
set_option maxRecDepth 100000 in
/-- WriteString, step by step. -/
theorem writeString_at (L : Lays.n166 P ρ) (X : Builder.Extra P ρ) (b o : Nat) (w w1 w2 : World) (s : ByteArray) (v v' : Value) (hcc : Calls P (ρ.f 240) #[.pointer (some ⟨b, o, none⟩)] w fun e w' => e = .returned (.tuple #[]) ∧ w' = w1)
    (c1 : w1.cell? ⟨b, o + 1, none⟩ = some v) (hap : ∀ ty, (Builtin.append_ #[ρ.t 37, ρ.t 9] ty #[v, .string s]).run P w1 = .ok v' w2) (c2 : w2.cell? ⟨b, o + 1, none⟩ = some v) (f2 : w2.frozen? ⟨b, o + 1, none⟩ = false)
    (hv : ∃ ao n cap, v = .slice ao n cap) (hv' : ∃ ao n cap, v' = .slice ao n cap) :
    Calls P (ρ.f 166) #[.pointer (some ⟨b, o, none⟩), .string s] w fun e w' => e = .returned (.tuple #[.int .i64 s.size, .nilIface]) ∧ w' = w2.setCell ⟨b, o + 1, none⟩ v' := by
  obtain ⟨i0, hi, hz0, hz1, hz2⟩ := info_parts X.infoByte
  have mixed := L.mixed
  have t72 := L.t72; have a72 := L.a72; have z72 := L.z72; have v72 := L.v72; have u72 := run_underlying L.t72
  have t70 := L.t70; have a70 := L.a70; have z70 := L.z70; have v70 := L.v70; have u70 := run_underlying L.t70
  have t37 := L.t37; have a37 := L.a37; have z37 := L.z37; have v37 := L.v37; have u37 := run_underlying L.t37
  have t3 := L.t3; have a3 := L.a3; have z3 := L.z3; have v3 := L.v3; have u3 := run_underlying L.t3
  have t9 := L.t9; have a9 := L.a9; have z9 := L.z9; have v9 := L.v9; have u9 := run_underlying L.t9
  have t4 := L.t4; have a4 := L.a4; have z4 := L.z4; have v4 := L.v4; have u4 := run_underlying L.t4
  have t164 := L.t164; have a164 := L.a164; have z164 := L.z164; have v164 := L.v164; have u164 := run_underlying L.t164
  have t5 := X.t5; have a5 := X.a5; have z5 := X.z5; have v5 := X.v5; have u5 := run_underlying X.t5
  have e240 : ∀ args w, (callFunc (ρ.f 240) args).run P w = .ok (.enter (ρ.f 240) args) w := enters_of L.f240 (by kernel_rfl) rfl
  obtain ⟨ao, n, cap, rfl⟩ := hv
  obtain ⟨ao', n', cap', rfl⟩ := hv'
  go_enter L.f166, Body.n166_ntmps ρ
  go_wp2_with (go_at_fn (ρ.f 240); refine hcc.mono ?_)
  rintro e x ⟨rfl, rfl⟩
  go_wp2_with (at_builtin; refine wpList_app rfl _ _ (ρ.t 37) (ρ.t 9) rfl _ _ (hap _) ?_)
  go_wp2
  go_ret2
  exact ⟨rfl, rfl⟩
set_option maxHeartbeats 2000000 in
set_option maxRecDepth 100000 in
/-- String, step by step. -/
theorem string_at (L : Lays.n169 P ρ) (X : Builder.Extra P ρ) (b o : Nat) (w w2 : World) (ao : Option Addr) (n cap : Nat) (q : Option Addr) (s : ByteArray) (c1 : w.drew.cell? ⟨b, o + 1, none⟩ = some (.slice ao n cap))
    (hSD : (Builtin.unsafeSliceData_ #[ρ.t 37] (ρ.t 127) #[.slice ao n cap]).run P w.drew = .ok (.pointer q) w.drew)
    (hUS : (Builtin.unsafeString_ #[ρ.t 127, ρ.t 3] (ρ.t 9) #[.pointer q, .int .i64 n]).run P w.drew = .ok (.string s) w2) :
    Calls P (ρ.f 169) #[.pointer (some ⟨b, o, none⟩)] w fun e w' => e = .returned (.string s) ∧ w' = w2 := by
  have mixed := L.mixed
  have t72 := L.t72; have a72 := L.a72; have z72 := L.z72; have v72 := L.v72; have u72 := run_underlying L.t72
  have t70 := L.t70; have a70 := L.a70; have z70 := L.z70; have v70 := L.v70; have u70 := run_underlying L.t70
  have t37 := L.t37; have a37 := L.a37; have z37 := L.z37; have v37 := L.v37; have u37 := run_underlying L.t37
  have t127 := L.t127; have a127 := L.a127; have z127 := L.z127; have v127 := L.v127; have u127 := run_underlying L.t127
  have t3 := L.t3; have a3 := L.a3; have z3 := L.z3; have v3 := L.v3; have u3 := run_underlying L.t3
  have t9 := L.t9; have a9 := L.a9; have z9 := L.z9; have v9 := L.v9; have u9 := run_underlying L.t9
  have t5 := X.t5; have a5 := X.a5; have z5 := X.z5; have v5 := X.v5; have u5 := run_underlying X.t5
  go_enter L.f169, Body.n169_ntmps ρ
  go_wp2
  go_region_o
  all_goals (go_wp2; go_ret; exact ⟨rfl, rfl⟩)
end Go.Ev
namespace Go.Ev
open Go Go.RowKit
variable {r : DV}
/-! ropes -/
theorem cntF_succ (b n c : Nat) : cntF b (n + 1) c = if c % 256 = b then cntF b n (c / 256) + 1 else cntF b n (c / 256) := by
  show cif (Nat.beq (Nat.mod c 256) b) (Nat.succ (cntF b n (Nat.div c 256))) (cntF b n (Nat.div c 256)) = _
  rw [cif_eq]
  have : Nat.mod c 256 = c % 256 := rfl
  simp only [this, Nat.beq_eq]
  rfl
/-- A text without the two bytes is its own rope. -/
theorem rope_enc (A B : Nat) : ∀ l : List UInt8, cntF 1 l.length (encB l) = 0 → cntF 2 l.length (encB l) = 0 → rope A B l.length (encB l) = l
  | [], _, _ => rfl
  | b :: l, h1, h2 => by
    have hb := b.toNat_lt
    have e1 : encB (b :: l) % 256 = b.toNat := enc_head
    have e2 : encB (b :: l) / 256 = encB l := by show (b.toNat + 256 * encB l) / 256 = _; omega
    rw [List.length_cons, cntF_succ, e1, e2] at h1 h2
    split at h1
    · omega
    split at h2
    · omega
    rename_i g1 g2
    rw [List.length_cons, rope, e1, e2, if_neg g1, if_neg g2, rope_enc A B l h1 h2]
    simp
theorem rope_mod (A B : Nat) : ∀ n c d, rope A B n (c % 256 ^ n + d * 256 ^ n) = rope A B n c
  | 0, c, d => rfl
  | n + 1, c, d => by
    have h1 : (c % 256 ^ (n + 1) + d * 256 ^ (n + 1)) % 256 = c % 256 := by
      rw [Nat.pow_succ, Nat.mul_comm (256 ^ n) 256, Nat.mod_mul, ← Nat.mul_assoc, Nat.mul_comm d 256, Nat.mul_assoc, Nat.add_assoc, ← Nat.mul_add, Nat.add_mul_mod_self_left, Nat.mod_mod]
    have h2 : (c % 256 ^ (n + 1) + d * 256 ^ (n + 1)) / 256 = c / 256 % 256 ^ n + d * 256 ^ n := by
      rw [Nat.pow_succ, Nat.mul_comm (256 ^ n) 256, Nat.mod_mul, ← Nat.mul_assoc, Nat.mul_comm d 256, Nat.mul_assoc, Nat.add_assoc, ← Nat.mul_add, Nat.add_mul_div_left _ _ (by omega), Nat.div_eq_of_lt (Nat.mod_lt _ (by omega)), Nat.zero_add]
    rw [rope, rope, h1, h2, rope_mod A B n (c / 256) d]
theorem rope_app (A B : Nat) : ∀ n m c d, rope A B (n + m) (c % 256 ^ n + d * 256 ^ n) = rope A B n c ++ rope A B m d
  | 0, m, c, d => by simp [rope, Nat.mod_one]
  | n + 1, m, c, d => by
    have h1 : (c % 256 ^ (n + 1) + d * 256 ^ (n + 1)) % 256 = c % 256 := by
      rw [Nat.pow_succ, Nat.mul_comm (256 ^ n) 256, Nat.mod_mul, ← Nat.mul_assoc, Nat.mul_comm d 256, Nat.mul_assoc, Nat.add_assoc, ← Nat.mul_add, Nat.add_mul_mod_self_left, Nat.mod_mod]
    have h2 : (c % 256 ^ (n + 1) + d * 256 ^ (n + 1)) / 256 = c / 256 % 256 ^ n + d * 256 ^ n := by
      rw [Nat.pow_succ, Nat.mul_comm (256 ^ n) 256, Nat.mod_mul, ← Nat.mul_assoc, Nat.mul_comm d 256, Nat.mul_assoc, Nat.add_assoc, ← Nat.mul_add, Nat.add_mul_div_left _ _ (by omega), Nat.div_eq_of_lt (Nat.mod_lt _ (by omega)), Nat.zero_add]
    rw [show n + 1 + m = (n + m) + 1 by omega, rope, h1, h2, rope_app A B n m (c / 256) d, rope, List.append_assoc]
theorem rope_le {A B : Nat} (hA : A < 2147483648) (hB : B < 2147483648) (n c : Nat) : (rope A B n c).length ≤ 10 * n := by
  obtain ⟨h1, h2⟩ := rope_len A B n c
  have a := (dec_len hA).2
  have b := (dec_len hB).2
  have a' : cntF 1 n c * (dec A).length ≤ cntF 1 n c * 10 := Nat.mul_le_mul_left _ a
  have b' : cntF 2 n c * (dec B).length ≤ cntF 2 n c * 10 := Nat.mul_le_mul_left _ b
  omega
theorem rope_pos (A B n c : Nat) : n ≠ 0 → rope A B n c ≠ [] := by
  intro hn
  obtain ⟨n, rfl⟩ : ∃ m, n = m + 1 := ⟨n - 1, by omega⟩
  obtain ⟨h, tl, e, _⟩ := rope_head A B n c
  rw [e]; simp
noncomputable def ropeY (n c : Nat) : Nat := Nat.add (Nat.mul (Nat.add (Nat.mul c 65536) n) 2) 1
theorem ropeY_ok {n c : Nat} (hn : n ≤ 65535) : ropeY n c % 2 = 1 ∧ ropeY n c / 2 % 65536 = n ∧ ropeY n c / 131072 = c := by
  have e : ropeY n c = (c * 65536 + n) * 2 + 1 := rfl
  rw [e]
  omega
theorem den_rope (A B : Nat) {M : Int} {n c : Nat} (hn : n ≤ 65535) : den A B M (ropeY n c) = .string ⟨(rope A B n c).toArray⟩ := by
  obtain ⟨h1, h2, h3⟩ := ropeY_ok (c := c) hn
  rw [den, if_pos h1, h2, h3]
/-- A text's rope. -/
noncomputable def asR (v : AV) (k : Nat → Nat → Res) : Res :=
  AV.rec (motive_1 := fun _ => Res) (motive_2 := fun _ => Unit) (bad 120) (fun _ => bad 120) (fun _ _ => bad 120) (fun n c => natF n fun n => natF c fun c => cif (an (Nat.beq (cntF 1 n c) 0) (Nat.beq (cntF 2 n c) 0)) (k n c) (bad 120)) (fun _ _ => bad 120) (bad 120) (fun _ _ _ => bad 120) (bad 120) (fun _ => bad 120) (bad 120) (fun _ _ _ _ _ => bad 120) (bad 120) (fun _ _ _ => bad 120) (bad 120) (fun _ _ => bad 120) (fun _ _ => bad 120)
    (fun y => cif (yOdd y) (natF (yLen y) fun n => natF (yCod y) fun c => k n c) (bad 120)) (fun _ => bad 120) () (fun _ _ _ _ => ()) v
section
variable {P : Program} {base : Nat}
theorem asR_ok {ρ : Rn} {h : Hp} {w : World} (s : Sim P base ρ h w) {A B : Nat} {M : Int} (e : ρ.sy = den A B M) {x : AV} {v : Value} (rv : RV P ρ x v) {k : Nat → Nat → Res} (hx : asR x k = .ok r) :
    ∃ n c str, v = .string str ∧ str.data.toList = rope A B n c ∧ k n c = .ok r := by
  cases x with
  | s n c =>
    have hx' : natF n (fun n => natF c fun c => cif (an (Nat.beq (cntF 1 n c) 0) (Nat.beq (cntF 2 n c) 0)) (k n c) (bad 120)) = .ok r := hx
    rw [natF_eq, natF_eq, cif_eq] at hx'
    obtain ⟨h1, h2⟩ := ite_bad hx'
    simp only [an_eq, Bool.and_eq_true, Nat.beq_eq] at h1
    simp only [RV] at rv
    obtain ⟨str, rfl, hl, hc⟩ := rv
    subst hl; subst hc
    exact ⟨_, _, str, rfl, (rope_enc A B _ h1.1 h1.2).symm, h2⟩
  | y y =>
    have hx' : cif (yOdd y) (natF (yLen y) fun n => natF (yCod y) fun c => k n c) (bad 120) = .ok r := hx
    rw [natF_eq, natF_eq, cif_eq] at hx'
    obtain ⟨h1, h2⟩ := ite_bad hx'
    have g : y % 2 = 1 := by
      have : Nat.mod y 2 = 1 := by simpa [yOdd] using h1
      exact this
    simp only [RV] at rv
    refine ⟨yLen y, yCod y, ⟨(rope A B (yLen y) (yCod y)).toArray⟩, ?_, ?_, h2⟩
    · rw [rv.1, e, den, if_pos g]; rfl
    · simp
  | _ => exact bad_ok hx
theorem enc_known {ρ : Rn} {h : Hp} {w : World} (s : Sim P base ρ h w) : ∃ A B M, A < 2147483648 ∧ B < 2147483648 ∧ ρ.sy = den A B M := s.kn
/-- A Builder's row. -/
noncomputable def bufE (v : AV) (z : Res) (k : Id → Res) : Res :=
  AV.rec (motive_1 := fun _ => Res) (motive_2 := fun _ => Unit) (bad 131) (fun _ => bad 131) (fun _ _ => bad 131) (fun _ _ => bad 131) (fun _ _ => bad 131) (bad 131) (fun _ _ _ => bad 131) z (fun _ => bad 131) (bad 131) (fun _ _ _ _ _ => bad 131) (bad 131) (fun _ _ _ => bad 131) (bad 131) (fun _ _ => bad 131) (fun _ _ => bad 131)
    (fun _ => bad 131) (fun j => k j) () (fun _ _ _ _ => ()) v
noncomputable def bsE (o : AObj) (k : TypeId → Nat → Res) : Res := AObj.rec (motive := fun _ => Res) (bad 130) (fun _ _ _ _ => bad 130) (fun _ _ => bad 130) (fun e y => k e y) o
theorem bufE_ok {v : AV} {z : Res} {k : Id → Res} (h : bufE v z k = .ok r) : v = .sl0 ∧ z = .ok r ∨ ∃ j, v = .sw j ∧ k j = .ok r := by
  cases v <;> first | exact .inl ⟨rfl, h⟩ | exact .inr ⟨_, rfl, h⟩ | exact bad_ok h
theorem bsE_ok {o : AObj} {k : TypeId → Nat → Res} (h : bsE o k = .ok r) : ∃ e y, o = .bs e y ∧ k e y = .ok r := by
  cases o <;> first | exact ⟨_, _, rfl, h⟩ | exact bad_ok h
/-- A text, appended to a row of bytes. -/
noncomputable def appBuf (eb : TypeId) (x : AV) (n c : Nat) (h : Hp) (fin : AV → Hp → Res) : Res :=
  bufE x (cif (Nat.beq n 0) (fin .sl0 h) (cif (Nat.ble n 65535) (natF (ropeY n c) fun y => Hp.new (.bs eb y) h fun i h => fin (.sw i) h) (bad 134)))
    (fun j => bsE (hat j h.t) fun e y0 => cif (an (Nat.beq e eb) (yOdd y0)) (cif (Nat.beq n 0) (fin (.sw j) h)
      (cif (Nat.ble (Nat.add (yLen y0) n) 65535) (natF (ropeY (Nat.add (yLen y0) n) (Nat.add (Nat.mod (yCod y0) (Nat.pow 256 (yLen y0))) (Nat.mul c (Nat.pow 256 (yLen y0))))) fun y => Hp.new (.bs eb y) ⟨hput j .no h.t, h.nx⟩ fun i h => fin (.sw i) h) (bad 134))) (bad 130))
theorem lenOf_str (str : ByteArray) (w : World) : (Builtin.lenOf (.string str)).run P w = .ok str.size w := by simp [Builtin.lenOf]
theorem newBs {ρ : Rn} {h : Hp} {w : World} (s : Sim P base ρ h w) (hnx : h.nx < 32768) {eb : TypeId} {y : Nat} {l : List UInt8} (hy : ρ.sy y = .string ⟨l.toArray⟩) {cs z : Array Value} (hcs : cs = (Lib.byteCells l).toArray ++ z) :
    Stp P base ρ h w (ρ.add (idOf h.nx) w.heap.size cs.size l.length eb) ⟨hput (idOf h.nx) (.bs eb y) h.t, Nat.succ h.nx⟩ (w.drew.alloc (.cells cs eb)) ∧ RV P (ρ.add (idOf h.nx) w.heap.size cs.size l.length eb) (.sw (idOf h.nx)) (.slice (some ⟨w.heap.size, 0, none⟩) l.length cs.size) := by
  refine ⟨(Stp.draw s).trans (Stp.new (Stp.draw s).sim hnx rfl fun ρ' hρ hle => ?_), ?_⟩
  · subst hρ
    refine ⟨by simp [Rn.add], s.bs, cs, 0, 0, ⟨l.toArray⟩, by show (w.heap.push _)[w.heap.size]? = _; simp, by simp [Rn.add], by rw [hle.sy]; exact hy, by simp [Rn.add], ?_, fun j hj => ?_, fun j _ => by omega⟩
    · simp [Rn.add, hcs, Lib.byteCells_length]
    · have hj' : j < l.length := by simpa using hj
      rw [hcs, Array.getElem?_append_left (by simpa [Lib.byteCells_length] using hj')]
      simp [Lib.byteCells, hj']
  · simp only [RV]
    exact ⟨w.heap.size, by simp [Rn.add], by simp [Rn.add]⟩
theorem appBuf_ok {t u eb : TypeId} {i : TypeInfo} (ht : P.underlying t = some (.slice eb)) (hu : P.underlying u = some .string) (hi : P.info? eb = some i) (hz : i.zero = some (.int .u8 0)) (hsz : i.size = 1) (hby : i.bytes = 1)
    {ρ : Rn} {h : Hp} {w : World} (s : Sim P base ρ h w) {A B : Nat} {M : Int} (e : ρ.sy = den A B M) (hA : A < 2147483648) (hB : B < 2147483648) {n c : Nat} {str : ByteArray} (hs : str.data.toList = rope A B n c) {x : AV} {v : Value} (rv : RV P ρ x v) {fin : AV → Hp → Res}
    (hx : appBuf eb x n c h fin = .ok r) :
    ∃ v' w' ρ' x' h', (∀ ty, (Builtin.append_ #[t, u] ty #[v, .string str]).run P w = .ok v' w') ∧ Stp P base ρ h w ρ' h' w' ∧ RV P ρ' x' v' ∧ fin x' h' = .ok r ∧ (∀ b e m ct, hat b h.t = .c true e m ct → ρ.blk b ≠ none → hat b h'.t = .c true e m ct) ∧
      (∃ ao n cap, v = .slice ao n cap) ∧ ∃ ao n cap, v' = .slice ao n cap := by
  have hstr : str.size = (rope A B n c).length := by rw [← hs]; rfl
  have empty : n = 0 → str.size = 0 := fun q => by rw [hstr, q]; rfl
  have firstS := fun w => Lib.run_firstCells_string (P := P) w i.size str
  have strL : Lib.strCells str = Lib.byteCells (rope A B n c) := by rw [Lib.strCells_eq, hs]
  unfold appBuf at hx
  rcases bufE_ok hx with ⟨rfl, hx⟩ | ⟨j, rfl, hx⟩
  · simp only [RV] at rv
    subst rv
    rw [cif_eq] at hx
    rcases ite_ok hx with ⟨h0, hx⟩ | ⟨h0, hx⟩
    · have h0 : n = 0 := by simpa using h0
      have hl := empty h0
      refine ⟨.slice none 0 0, w, ρ, .sl0, h, fun ty => ?_, .refl s, by simp only [RV], hx, fun _ _ _ _ q _ => q, ⟨_, _, _, rfl⟩, _, _, _, rfl⟩
      refine app_none (P := P) (ad := none) (sLen := 0) (sCap := 0) (e := eb) (i := i) (x := .string str) rfl rfl ht hu (.inr rfl) hi (fun w => by rw [lenOf_str, hl]) (Nat.le_refl _) ?_
      have := firstS w
      rw [hl] at this
      rw [this]
      have : Lib.strCells str = [] := List.eq_nil_of_length_eq_zero (by rw [Lib.strCells_length]; exact hl)
      rw [this]
    · have h0 : n ≠ 0 := by simpa using h0
      rw [cif_eq] at hx
      obtain ⟨h5, hx⟩ := ite_bad hx
      have h5 : n ≤ 65535 := Nat.le_of_ble_eq_true h5
      rw [natF_eq] at hx
      obtain ⟨hnx, hx⟩ := hpNew_ok hx
      have hlen : str.size ≤ 10 * 65535 := by rw [hstr]; have := rope_le hA hB n c; omega
      have hpos : str.size ≠ 0 := by rw [hstr]; intro z; exact rope_pos A B n c h0 (List.eq_nil_of_length_eq_zero z)
      obtain ⟨nc, hnc, hrun⟩ := app_grow (P := P) (ty := t) (argTypes := #[t, u]) (w := w) (ad := none) (sLen := 0) (sCap := 0) (m := str.size) (x := .string str) (old := #[]) (new := (Lib.strCells str).toArray) rfl rfl ht hu (.inr rfl) hi hz (fun w => lenOf_str str w) (by omega) (by omega) (by rw [hby]; omega)
        (by simp [Builtin.firstCells]) (firstS _)
      rw [Nat.zero_add] at hnc hrun
      have hrs : (rope A B n c).length = str.size := hstr.symm
      have hcz : ((#[] : Array Value) ++ (Lib.strCells str).toArray ++ Builtin.zeroCells (Value.int .u8 0).cells (nc - str.size)) = (Lib.byteCells (rope A B n c)).toArray ++ Builtin.zeroCells (Value.int .u8 0).cells (nc - str.size) := by rw [strL]; simp
      have hcl : ((Lib.byteCells (rope A B n c)).toArray ++ Builtin.zeroCells (Value.int .u8 0).cells (nc - str.size)).size = nc := by
        have : (Value.int IntKind.u8 0).cells.size = 1 := rfl
        simp [size_zeroCells, Lib.byteCells_length, hrs, this]; omega
      obtain ⟨st, rv⟩ := newBs s hnx (eb := eb) (y := ropeY n c) (l := rope A B n c) (by rw [e]; exact den_rope A B h5) (z := Builtin.zeroCells (Value.int .u8 0).cells (nc - str.size)) rfl
      rw [hcl, hrs] at rv
      rw [hcl, hrs] at st
      refine ⟨.slice (some ⟨w.heap.size, 0, none⟩) str.size nc, _, _, _, _, fun ty => ?_, st, rv, hx, fun b e m ct hb hne => ?_, ⟨_, _, _, rfl⟩, _, _, _, rfl⟩
      · rw [← hcz]; exact hrun
      · show hat b (hput _ _ h.t) = _
        rw [hat_hput_ne _ _ fun q : idOf h.nx = b => hne (by rw [← q]; exact s.nx _ (Nat.le_refl _) hnx)]
        exact hb
  · obtain ⟨e2, y0, hj, hx⟩ := bsE_ok hx
    rw [cif_eq] at hx
    obtain ⟨h1, hx⟩ := ite_bad hx
    simp only [an_eq, Bool.and_eq_true, Nat.beq_eq] at h1
    obtain ⟨rfl, hodd⟩ := h1
    simp only [RV] at rv
    obtain ⟨g, hg, rfl⟩ := rv
    have hh := s.ob j g hg
    rw [hj] at hh
    obtain ⟨k1, k2, cs, lo, hi', s0, k3, k4, k5, k6, k7, k8, k9⟩ := hh
    have ho2 : y0 % 2 = 1 := by
      have : Nat.mod y0 2 = 1 := by simpa [yOdd] using hodd
      exact this
    have hs0 : s0.data.toList = rope A B (yLen y0) (yCod y0) := by
      rw [e, den, if_pos ho2] at k5
      cases k5; rfl
    have hsz0 : s0.data.size = (rope A B (yLen y0) (yCod y0)).length := by rw [← hs0]; simp
    have hown : Own h j := .inr (.inr ⟨_, _, hj⟩)
    have hlive := hown.live
    rw [cif_eq] at hx
    rcases ite_ok hx with ⟨h0, hx⟩ | ⟨h0, hx⟩
    · have h0 : n = 0 := by simpa using h0
      have hl := empty h0
      refine ⟨_, w, ρ, .sw j, h, fun ty => ?_, .refl s, by simp only [RV]; exact ⟨g, hg, rfl⟩, hx, fun _ _ _ _ q _ => q, ⟨_, _, _, rfl⟩, _, _, _, rfl⟩
      refine app_none (P := P) (e := e2) (i := i) (x := .string str) rfl rfl ht hu (.inr rfl) hi (fun w => by rw [lenOf_str, hl]) (by omega) ?_
      have := firstS w
      rw [hl] at this
      rw [this]
      have : Lib.strCells str = [] := List.eq_nil_of_length_eq_zero (by rw [Lib.strCells_length]; exact hl)
      rw [this]
    · have h0 : n ≠ 0 := by simpa using h0
      rw [cif_eq] at hx
      obtain ⟨h5, hx⟩ := ite_bad hx
      have h5 : yLen y0 + n ≤ 65535 := Nat.le_of_ble_eq_true h5
      rw [natF_eq] at hx
      obtain ⟨hnx, hx⟩ := hpNew_ok hx
      have hlen : str.size ≤ 10 * 65535 := by rw [hstr]; have := rope_le hA hB n c; omega
      have hlen0 : s0.data.size ≤ 10 * 65535 := by rw [hsz0]; have := rope_le hA hB (yLen y0) (yCod y0); omega
      have hpos : str.size ≠ 0 := by rw [hstr]; intro z; exact rope_pos A B n c h0 (List.eq_nil_of_length_eq_zero z)
      have hrope : rope A B (yLen y0 + n) (Nat.add (Nat.mod (yCod y0) (Nat.pow 256 (yLen y0))) (Nat.mul c (Nat.pow 256 (yLen y0)))) = rope A B (yLen y0) (yCod y0) ++ rope A B n c := rope_app A B _ _ _ _
      have hden : ρ.sy (ropeY (Nat.add (yLen y0) n) (Nat.add (Nat.mod (yCod y0) (Nat.pow 256 (yLen y0))) (Nat.mul c (Nat.pow 256 (yLen y0))))) = .string ⟨(s0.data.toList ++ str.data.toList).toArray⟩ := by
        rw [e, hs0, hs, ← hrope]; exact den_rope A B h5
      have hllen : (s0.data.toList ++ str.data.toList).length = ρ.ext j + str.size := by rw [List.length_append, k6]; simp <;> rfl
      have hkeepC : ∀ b e m ct (ob : AObj), hat b h.t = .c true e m ct → ρ.blk b ≠ none → hat b (hput (idOf h.nx) ob (hput j .no h.t)) = .c true e m ct := fun b e m ct ob hb hne => by
        rw [hat_hput_ne _ _ fun q : idOf h.nx = b => hne (by rw [← q]; exact s.nx _ (Nat.le_refl _) hnx), hat_hput_ne _ _ fun q => by rw [q, hb] at hj; cases hj]
        exact hb
      by_cases hroom : ρ.ext j + str.size ≤ ρ.csz j
      · obtain ⟨w', cs', q1, q2, q3, q4, q5, q6, q7, q8, q9⟩ := storeCells_ok (P := P) g (ρ.ext j) e2 lo hi' (Lib.strCells str) 0 w cs k3 (by rw [Lib.strCells_length]; omega) (Lib.strCells_oneCell str) k9
        have hrun := app_room (P := P) (ty := t) (argTypes := #[t, u]) (w := w) (w' := w') (ad := ⟨g, 0, none⟩) (sLen := ρ.ext j) (sCap := ρ.csz j) (m := str.size) (x := .string str) (new := (Lib.strCells str).toArray) rfl rfl ht hu (.inr rfl) hi (fun w => lenOf_str str w) hroom (firstS _)
          (by rw [add_eq, hsz]; simpa using q1)
        have st := Stp.grow s hnx hg hown k2 (ob := .bs e2 (ropeY (Nat.add (yLen y0) n) (Nat.add (Nat.mod (yCod y0) (Nat.pow 256 (yLen y0))) (Nat.mul c (Nat.pow 256 (yLen y0)))))) (csz := ρ.csz j) (ext := ρ.ext j + str.size) (ty := e2) q2 q3 q7 q8 q9 fun ρ' hρ hle => by
          subst hρ
          refine ⟨by simp [Rn.add], k2, cs', lo, hi', _, q4, by simp [Rn.add]; omega, by rw [hle.sy]; exact hden, by simp [Rn.add, k6] <;> rfl, by simp [Rn.add] <;> omega, fun j' hj' => ?_, fun j' hj' => k9 j' (by omega)⟩
          have hj2 : j' < s0.data.size + str.data.size := by simpa using hj'
          have hss : str.size = str.data.size := rfl
          rw [q6 j']
          by_cases hlt : j' < s0.data.size
          · rw [if_neg (by omega), k8 j' hlt]
            simp
            rw [List.getElem_append_left (by simpa using hlt)]; simp
          · have hlt2 : j' - s0.data.size < str.data.size := by omega
            rw [if_pos (by rw [Lib.strCells_length]; omega)]
            simp [Lib.strCells, k6]
            refine ⟨str.data[j' - s0.data.size], Array.getElem?_eq_getElem hlt2, ?_⟩
            rw [List.getElem_append_right (by simpa using hlt)]; simp
        exact ⟨_, w', _, .sw (idOf h.nx), _, fun ty => hrun, st, by simp only [RV]; exact ⟨g, by simp [Rn.add], by simp [Rn.add]⟩, hx, fun b e m ct hb hne => hkeepC b e m ct _ hb hne, ⟨_, _, _, rfl⟩, _, _, _, rfl⟩
      · have hcell : ∀ j' v, (Lib.strCells s0)[j']? = some v → w.cell? ((⟨g, 0, none⟩ : Addr).add j') = some v := fun j' v hv => by
          rw [add_eq, cell_of k3, Nat.zero_add]
          have hlt : j' < s0.data.size := by
            have := (List.getElem?_eq_some_iff.1 hv).1
            rw [Lib.strCells_length] at this; exact this
          rw [k8 j' hlt, ← hv]
          simp [Lib.strCells]
          rw [Array.getElem?_eq_getElem hlt]; rfl
        have hrun := Lib.run_append_grow_string (P := P) w t u t e2 i (.int .u8 0) ht hu hi hz ⟨g, 0, none⟩ (ρ.ext j) (ρ.csz j) (Lib.strCells s0) (by rw [Lib.strCells_length, hsz, k6]; simp <;> rfl) hcell str (by omega) (by omega) (by rw [hby]; have := cap_le (ρ.ext j + str.size) (ρ.csz j) (by omega); omega)
        have st0 := Stp.kill s hg
        obtain ⟨st, rv⟩ := newBs st0.sim hnx (eb := e2) (y := ropeY (Nat.add (yLen y0) n) (Nat.add (Nat.mod (yCod y0) (Nat.pow 256 (yLen y0))) (Nat.mul c (Nat.pow 256 (yLen y0))))) (l := s0.data.toList ++ str.data.toList) hden
          (cs := (Lib.strCells s0).toArray ++ (Lib.strCells str).toArray ++ Builtin.zeroCells (Value.int .u8 0).cells (grownCap w (ρ.ext j + str.size) (ρ.csz j) e2 - (ρ.ext j + str.size))) (z := Builtin.zeroCells (Value.int .u8 0).cells (grownCap w (ρ.ext j + str.size) (ρ.csz j) e2 - (ρ.ext j + str.size)))
          (by rw [Lib.byteCells_append]; simp [Lib.strCells_eq])
        have hge := grownCap_ge w (ρ.ext j + str.size) (ρ.csz j) e2
        have hcl : ((Lib.strCells s0).toArray ++ (Lib.strCells str).toArray ++ Builtin.zeroCells (Value.int .u8 0).cells (grownCap w (ρ.ext j + str.size) (ρ.csz j) e2 - (ρ.ext j + str.size))).size = grownCap w (ρ.ext j + str.size) (ρ.csz j) e2 := by
          have h1 : (Value.int IntKind.u8 0).cells.size = 1 := rfl
          have h2 : s0.size = s0.data.size := rfl
          simp [size_zeroCells, Lib.strCells_length, h1]; omega
        rw [hcl, hllen] at rv
        rw [hcl, hllen] at st
        exact ⟨_, _, _, .sw (idOf h.nx), _, fun ty => hrun, st0.trans st, rv, hx, fun b e m ct hb hne => hkeepC b e m ct _ hb hne, ⟨_, _, _, rfl⟩, _, _, _, rfl⟩
end
end Go.Ev

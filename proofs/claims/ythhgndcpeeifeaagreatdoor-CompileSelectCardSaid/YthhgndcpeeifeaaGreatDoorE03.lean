/- Part of the proof of CompileForCardSaid. -/
import Derived.Test.YthhgndcpeeifeaaGreatDoorE02
import Derived.Defers
import Derived.Scope
set_option linter.unusedVariables false
set_option linter.unusedSimpArgs false
set_option linter.unusedSectionVars false
set_option linter.constructorNameAsVariable false
namespace Go.Ev
open Go Go.RowKit
variable {r : DV}
section
variable {P : Program} {base N : Nat} {cl : Cl} {o : Oper} {u y c : Operand}
theorem mkS_ok {t e : TypeId} {i : TypeInfo} {v : Value} (ho : o.op = .makeSlice t u y) (hu : okO P u = true) (hy : okO P y = true) (ht : P.underlying t = some (.slice e)) (hi : P.info? e = some i) (hz : i.zero = some v)
    (hvs : v.cells.size = i.size) : XS P base N cl (xMkS e i.bytes (cellsOf (valA v)) (opA u) (opA y)) o := .of fun F h k ρ w a fr s hx => by
  obtain ⟨kd, cp, hc, hlt, hx⟩ := inI_ok hx
  obtain ⟨kd', l, hl, hle, hx⟩ := inI_ok hx
  rw [cif_eq] at hx
  rcases ite_ok hx with ⟨hby, hx⟩ | ⟨_, hx⟩
  · obtain ⟨h1, h2, hx⟩ := newC_ok hx
    rw [natF_eq] at hx
    have rc := opA_ok fr s hy
    have rl := opA_ok fr s hu
    rw [hc] at rc; rw [hl] at rl
    simp only [RV] at rc rl
    have hby' : i.bytes * cp ≤ 281474976710656 := Nat.le_of_ble_eq_true hby
    have hle' : l ≤ cp := Nat.le_of_lt_succ hle
    have hcl : (cellsOf (valA v)).length = i.size := by rw [← hvs]; simpa using (cellsOf_valA (P := P) (ρ := ρ) v).length
    have hrl : RL P ρ (repL cp (cellsOf (valA v))) ((Array.range (cp * v.cells.size)).map fun j => v.cells[j % v.cells.size]!).toList := by
      rw [zeros_eq]; exact repL_ok (cellsOf_valA v) cp
    obtain ⟨ρ', st, q1, q2, q3, q4⟩ := new_ok s h2 (e := e) hrl h1
    have hlen : (repL cp (cellsOf (valA v))).length = cp * i.size := by rw [repL_len, hcl]
    refine ⟨ρ', _, _, .slice (some ⟨w.heap.size, 0, none⟩) l cp, _, st, ?_, hx, ?_⟩
    · simp only [RV]
      exact ⟨_, _, _, q1, rfl, hle', .inl ⟨by rw [st.off0 q1], by rw [q2, q4, hlen]; simp [Program.cellsOf, hi], by rw [q3, q4, hlen]; simp [Program.cellsOf, hi]⟩⟩
    · have wc : IntKind.i64.wrap (cp : Int) = cp := wrap_small .i64 cp (show cp < 9223372036854775808 by omega)
      have wl : IntKind.i64.wrap (l : Int) = l := wrap_small .i64 l (show l < 9223372036854775808 by omega)
      have b1 : ¬ ((281474976710656 : Int) < (i.bytes : Int) * (cp : Int)) := by
        have : ((i.bytes * cp : Nat) : Int) ≤ (281474976710656 : Nat) := Int.ofNat_le.2 hby'
        rw [Int.natCast_mul] at this; omega
      have b2 : ¬ ((cp : Int) < 0) := by omega
      have b3 : ¬ ((l : Int) < 0) := by omega
      have b5 : ¬ cp < l := by omega
      have e6 : ((Array.range (cp * i.size)).map fun j => v.cells[j % i.size]!) = ((Array.range (cp * v.cells.size)).map fun j => v.cells[j % v.cells.size]!) := by rw [hvs]
      by_cases h0 : cp * i.size = 0
      · have e5 : ((Array.range (cp * v.cells.size)).map fun j => v.cells[j % v.cells.size]!) = #[] := by rw [hvs, h0]; simp
        rw [e5]
        simp [execOp, ho, Instr.makeSlice, run_under ht, run_size hi, run_info hi, asInt, asIntOf, rc, rl, wc, wl, b1, b2, b3, b5, h0, newRow, show Array.range 0 = #[] from rfl]
      · simp [execOp, ho, Instr.makeSlice, run_under ht, run_size hi, run_info hi, run_zero hi hz, asInt, asIntOf, rc, rl, wc, wl, b1, b2, b3, b5, h0, newRow, hvs]
  · exact bad_ok hx
/-- A slice's or a string's cells. -/
theorem srcOf_ok {ρ : Rn} {h : Hp} {w : World} (s : Sim P base ρ h w) {sz : Nat} {v : AV} {v' : Value} (rv : RV P ρ v v') {k : Nat → List AV → Res} (hx : srcOf sz v h k = .ok r) :
    ∃ m l, k m l = .ok r ∧ l.length = m * sz ∧ (∀ w, (Builtin.lenOf v').run P w = .ok m w) ∧
      ∀ (w' : World) (q : Nat), w'.heap = w.heap → q ≤ m → ∃ cs : List Value, (Builtin.firstCells sz q v').run P w' = .ok cs.toArray w' ∧ RL P ρ (l.take (q * sz)) cs := by
  cases v with
  | sl0 =>
    simp only [RV] at rv; subst rv
    exact ⟨0, [], hx, by simp, fun w => by simp [Builtin.lenOf], fun w' q _ hq => ⟨[], by simp [Builtin.firstCells], by simp [RL]⟩⟩
  | sl b n len =>
    simp only [RV] at rv
    obtain ⟨a, ad, cap, hb, rfl, hcap, hd⟩ := rv
    obtain ⟨own, e, m, t, hc, hx⟩ := cellsAt_ok hx
    rw [cif_eq] at hx
    rcases ite_ok hx with ⟨hle, hx⟩ | ⟨_, hx⟩
    · have hle' : n + len * sz ≤ m := by simpa [Nat.ble_eq] using hle
      refine ⟨len, _, hx, by rw [cells_eq]; simp, fun w => by simp [Builtin.lenOf], fun w' q hw hq => ?_⟩
      rcases hd with ⟨rfl, _⟩ | ⟨h0, _⟩
      · have hq' : q * sz ≤ len * sz := Nat.mul_le_mul_right _ hq
        obtain ⟨l, h1, h2⟩ := (s.world (w' := w') hw).load hb hc (o := n) (m := q * sz) (by omega)
        refine ⟨l, by simp [Builtin.firstCells, h1], ?_⟩
        have e1 : (t.cells (Nat.mul len sz) n).take (q * sz) = t.cells (q * sz) n := by
          have e0 : min (q * sz) (Nat.mul len sz) = q * sz := Nat.min_eq_left hq'
          rw [cells_eq, cells_eq, ← List.map_take, List.take_range, e0]
        rw [e1]; exact h2
      · subst h0
        have hq0 : q = 0 := by omega
        subst hq0
        refine ⟨[], by simp [Builtin.firstCells, loadCells, loadCellsFrom], by simp [RL]⟩
    · exact bad_ok hx
  | s n c =>
    simp only [RV] at rv
    obtain ⟨str, rfl, h1, h2⟩ := rv
    have hx' : cif (Nat.beq sz 1) (k n (bytesOf n c)) (Ev.bad 32) = .ok _ := hx
    rw [cif_eq] at hx'
    rcases ite_ok hx' with ⟨hsz, hx⟩ | ⟨_, hx⟩
    · rw [Nat.beq_eq] at hsz
      subst hsz
      have key : ∀ l : List UInt8, RL P ρ (bytesOf l.length (encB l)) (l.map fun b => Value.int .u8 b.toNat) ∧ (bytesOf l.length (encB l)).length = l.length := by
        intro l
        induction l with
        | nil => exact ⟨by simp [bytesOf, RL], rfl⟩
        | cons b r ih =>
          have h3 : b.toNat < 256 := b.toNat_lt
          have e1 : bytesOf (b :: r).length (encB (b :: r)) = .i .u8 (.ofNat (encB (b :: r) % 256)) :: bytesOf r.length (encB (b :: r) / 256) := rfl
          have e2 : encB (b :: r) % 256 = b.toNat := by rw [encB_cons]; omega
          have e3 : encB (b :: r) / 256 = encB r := by rw [encB_cons]; omega
          rw [e1, e2, e3]
          refine ⟨?_, by simp [ih.2]⟩
          simp only [List.map_cons, RL, RV]
          exact ⟨_, _, rfl, rfl, ih.1⟩
      obtain ⟨k1, k2⟩ := key str.data.toList
      rw [h1, h2] at k1 k2
      have z1 : str.size = n := by rw [← h1]; rfl
      refine ⟨n, _, hx, by omega, fun w => by simp [Builtin.lenOf, z1], fun w' q hw hq => ?_⟩
      refine ⟨(str.data.toList.take q).map fun b => Value.int .u8 b.toNat, ?_, ?_⟩
      · simp only [Builtin.firstCells, Sem.run_pure]
        congr 1
        apply Array.ext'
        rw [Array.toList_map, ByteArray.data_extract, Array.toList_extract]
        simp
      · rw [Nat.mul_one]
        have := k1.take q
        rwa [← List.map_take] at this
    · exact bad_ok hx
  | _ => exact bad_ok hx
theorem cap_le (n c : Nat) (h : c < n) : Builtin.nextslicecap n c ≤ 2 * n + 768 := by
  have g : ∀ r c, c ≤ 2 * n + 768 → Builtin.growBy n r c ≤ 2 * n + 768 := by
    intro r
    induction r with
    | zero => intro c hc; exact hc
    | succ r ih =>
      intro c hc
      simp only [Builtin.growBy]
      split
      · exact hc
      · exact ih _ (by omega)
  unfold Builtin.nextslicecap
  split
  · omega
  · split
    · omega
    · exact g 4 c (by omega)
/-- A row grows: the new one has the old one's block, or a new one. -/
theorem Stp.grow {ρ : Rn} {h : Hp} {w w' : World} (s : Sim P base ρ h w) (hn : h.nx < 32768) {b : Id} {a : Nat} (hb : ρ.blk b = some a) (hl : Own h b) (hba : base ≤ a) {ob : AObj} {csz ext : Nat} {ty : TypeId}
    (hsz : w'.heap.size = w.heap.size) (hw : ∀ k, k ≠ a → w'.heap[k]? = w.heap[k]?) (hos : w'.os = w.os) (htp : w'.tape = w.tape) (hout : w'.output = w.output)
    (ho : ∀ ρ', ρ' = ρ.add (idOf h.nx) a csz ext ty → ρ.le ρ' → Holds P base ρ' (idOf h.nx) a w' ob) :
    Stp P base ρ h w (ρ.add (idOf h.nx) a csz ext ty) ⟨hput (idOf h.nx) ob (hput b .no h.t), Nat.succ h.nx⟩ w' := by
  have hnb : ρ.blk (idOf h.nx) = none := s.nx _ (Nat.le_refl _) hn
  have hle := Rn.le_add (ρ := ρ) hnb a csz ext ty
  have hnew : (ρ.add (idOf h.nx) a csz ext ty).blk (idOf h.nx) = some a := by simp [Rn.add]
  have hother : ∀ c, c ≠ idOf h.nx → (ρ.add (idOf h.nx) a csz ext ty).blk c = ρ.blk c := fun c hc => by simp [Rn.add, hc]
  have hbn : b ≠ idOf h.nx := fun e => by rw [e, hnb] at hb; cases hb
  have hat1 : hat (idOf h.nx) (hput (idOf h.nx) ob (hput b .no h.t)) = ob := hat_hput_self ..
  have hat2 : hat b (hput (idOf h.nx) ob (hput b .no h.t)) = .no := by rw [hat_hput_ne _ _ (Ne.symm hbn), hat_hput_self]
  have hat3 : ∀ c, c ≠ idOf h.nx → c ≠ b → hat c (hput (idOf h.nx) ob (hput b .no h.t)) = hat c h.t := fun c h1 h2 => by rw [hat_hput_ne _ _ (Ne.symm h1), hat_hput_ne _ _ (Ne.symm h2)]
  refine ⟨hle, ⟨by rw [hsz]; exact s.bs, ?_, ?_, ?_, ?_, ?_, by rw [hle.sy]; exact s.kn, fun i hi => (hw i (by omega)).trans (s.tb i hi), fun g hg => ⟨(hle.h _ _ (s.gl g hg)).2.1.trans (s.ct g hg).1, (hle.of _ _ (s.gl g hg)).trans (s.ct g hg).2⟩, oz_add s.oz (fun c ec oc => by
    have ec2 : c ≠ b := fun q => by subst q; exact oc.live hat2
    unfold Own at oc ⊢; rw [← hat3 c ec ec2]; exact oc)⟩, ⟨hos, htp, hout, by omega, fun k hk => hw k (by omega)⟩, Nat.le_succ _, fun k hk hk2 => hw k fun e => hk2 b (e ▸ hb) hl, ?_, ?_, ?_, ?_⟩
  · intro c x hc
    rw [hsz]
    by_cases e : c = idOf h.nx
    · subst e; rw [hnew] at hc; cases hc; exact s.lt b _ hb
    · rw [hother c e] at hc; exact s.lt c x hc
  · intro c x hc
    show Holds P base _ c x w' (hat c (hput (idOf h.nx) ob (hput b .no h.t)))
    by_cases e : c = idOf h.nx
    · subst e; rw [hnew] at hc; cases hc
      rw [hat1]; exact ho _ rfl hle
    · rw [hother c e] at hc
      by_cases e2 : c = b
      · subst e2; rw [hat2]; trivial
      · rw [hat3 c e e2]
        by_cases hne : hat c h.t = .no
        · rw [hne]; trivial
        · exact ((s.ob c x hc).mono hle hc).world (hw x fun e3 => e2 (s.inj b c a hb (e3 ▸ hc) hl hne).symm)
  · intro c d x hc hd lc ld
    have ld' : hat d (hput (idOf h.nx) ob (hput b .no h.t)) ≠ .no := ld
    have hcb : c ≠ b := fun e => by subst e; exact lc.live hat2
    have hdb : d ≠ b := fun e => by subst e; exact ld' hat2
    by_cases e : c = idOf h.nx
    · by_cases e2 : d = idOf h.nx
      · rw [e, e2]
      · subst e; rw [hnew] at hc; cases hc
        rw [hother d e2] at hd
        rw [hat3 d e2 hdb] at ld'
        exact absurd (s.inj b d _ hb hd hl ld') (Ne.symm hdb)
    · rw [hother c e] at hc
      have lc' : Own h c := by
        unfold Own at lc ⊢
        rw [show hat c (Hp.mk (hput (idOf h.nx) ob (hput b .no h.t)) h.nx.succ).t = hat c h.t from hat3 c e hcb] at lc; exact lc
      by_cases e2 : d = idOf h.nx
      · subst e2; rw [hnew] at hd; cases hd
        exact absurd (s.inj c b _ hc hb lc' hl.live) hcb
      · rw [hother d e2] at hd
        rw [hat3 d e2 hdb] at ld'
        exact s.inj c d x hc hd lc' ld'
  · intro n h1 h2
    have : idOf n ≠ idOf h.nx := fun e => by have := idOf_inj h2 hn e; have h1' : h.nx + 1 ≤ n := h1; omega
    rw [hother _ this]
    exact s.nx n (Nat.le_of_succ_le h1) h2
  · intro g hg
    exact (hle.h _ _ (s.gl g hg)).1
  · intro n _ _ h1 h2
    have e1 : idOf n ≠ idOf h.nx := fun e => by rw [e, hnew] at h2; cases h2
    have e2 : idOf n ≠ b := fun e => by rw [e, hb] at h1; cases h1
    exact hat3 _ e1 e2
  · intro n h1 h2 h3
    have : idOf n ≠ idOf h.nx := fun e => by have := idOf_inj h2 hn e; omega
    rw [hother _ this]; exact h3
  · intro c x hc lc
    by_cases e : c = idOf h.nx
    · subst e; rw [hnew] at hc; cases hc; exact .inr ⟨b, hb, hl⟩
    · rw [hother c e] at hc
      have e2 : c ≠ b := fun e => by
        subst e
        rcases lc with ⟨_, _, _, q⟩ | ⟨_, _, q⟩ | ⟨_, _, q⟩
        · rw [show hat c (Hp.mk (hput (idOf h.nx) ob (hput c .no h.t)) h.nx.succ).t = .no from hat2] at q; cases q
        · rw [show hat c (Hp.mk (hput (idOf h.nx) ob (hput c .no h.t)) h.nx.succ).t = .no from hat2] at q; cases q
        · rw [show hat c (Hp.mk (hput (idOf h.nx) ob (hput c .no h.t)) h.nx.succ).t = .no from hat2] at q; cases q
      exact .inr ⟨c, hc, by
        unfold Own at lc ⊢
        rw [show hat c (Hp.mk (hput (idOf h.nx) ob (hput b .no h.t)) h.nx.succ).t = hat c h.t from hat3 c e e2] at lc; exact lc⟩
  · intro c x hc lc
    by_cases e : c = idOf h.nx
    · subst e; rw [hnew] at hc; cases hc; exact .inr ⟨b, hb, hl.live⟩
    · rw [hother c e] at hc
      have e2 : c ≠ b := fun e => by subst e; exact lc hat2
      exact .inr ⟨c, hc, by
        unfold Live at lc ⊢
        rw [show hat c (Hp.mk (hput (idOf h.nx) ob (hput b .no h.t)) h.nx.succ).t = hat c h.t from hat3 c e e2] at lc; exact lc⟩
/-- A row is spoken of no more. -/
theorem Stp.kill {ρ : Rn} {h : Hp} {w : World} (s : Sim P base ρ h w) {b : Id} {a : Nat} (hb : ρ.blk b = some a) : Stp P base ρ h w ρ ⟨hput b .no h.t, h.nx⟩ w := by
  have hat1 : hat b (hput b .no h.t) = .no := hat_hput_self ..
  have hat2 : ∀ c, c ≠ b → hat c (hput b .no h.t) = hat c h.t := fun c hc => hat_hput_ne _ _ (Ne.symm hc)
  have live : ∀ c, hat c (hput b .no h.t) ≠ .no → c ≠ b ∧ hat c h.t ≠ .no := fun c hc => by
    have : c ≠ b := fun e => by subst e; exact hc hat1
    exact ⟨this, by rw [← hat2 c this]; exact hc⟩
  refine ⟨.refl ρ, ⟨s.bs, s.lt, ?_, ?_, s.nx, s.gl, s.kn, s.tb, s.ct, fun c a' hc ho => s.oz c a' hc (ho.imp (fun oc => by have := (live c oc.live).1; unfold Own at oc ⊢; rw [← hat2 c this]; exact oc) id)⟩, .refl _ _, Nat.le_refl _, fun _ _ _ => rfl, ?_, fun _ _ _ k => k, ?_, ?_⟩
  · intro c x hc
    show Holds P base ρ c x w (hat c (hput b .no h.t))
    by_cases e : c = b
    · subst e; rw [hat1]; trivial
    · rw [hat2 c e]; exact s.ob c x hc
  · intro c d x hc hd lc ld
    have lc' : Own h c := by
      unfold Own at lc ⊢
      rw [show hat c (Hp.mk (hput b .no h.t) h.nx).t = hat c h.t from hat2 c (live c (Own.live lc)).1] at lc; exact lc
    exact s.inj c d x hc hd lc' (live d ld).2
  · intro n _ _ h1 _
    exact hat2 _ fun e => by rw [e, hb] at h1; cases h1
  · intro c x hc lc
    have e : c ≠ b := fun e => by
      subst e
      rcases lc with ⟨_, _, _, q⟩ | ⟨_, _, q⟩ | ⟨_, _, q⟩
      · rw [show hat c (Hp.mk (hput c .no h.t) h.nx).t = .no from hat1] at q; cases q
      · rw [show hat c (Hp.mk (hput c .no h.t) h.nx).t = .no from hat1] at q; cases q
      · rw [show hat c (Hp.mk (hput c .no h.t) h.nx).t = .no from hat1] at q; cases q
    exact .inr ⟨c, hc, by unfold Own at lc ⊢; rw [show hat c (Hp.mk (hput b .no h.t) h.nx).t = hat c h.t from hat2 c e] at lc; exact lc⟩
  · intro c x hc lc
    exact .inr ⟨c, hc, (live c lc).2⟩
end
end Go.Ev
namespace Go.Ev
open Go Go.RowKit
variable {r : DV}
section
variable {P : Program} {base N : Nat} {cl : Cl} {o : Oper} {u y c : Operand}
theorem allSc_take : ∀ {l : List AV} (n : Nat), allSc l = true → allSc (l.take n) = true
  | [], n, h => by simpa using h
  | _ :: _, 0, _ => rfl
  | a :: r, n + 1, h => by
    have h' : an (isSc a) (allSc r) = true := h
    rw [an_eq, Bool.and_eq_true] at h'
    show an (isSc a) (allSc (r.take n)) = true
    rw [an_eq, Bool.and_eq_true]; exact ⟨h'.1, allSc_take n h'.2⟩
/-- An append where there is room. -/
theorem app_room {argTypes : Array TypeId} {ty t t2 e : TypeId} {i : TypeInfo} {d2 : TypeDesc} (h0 : argTypes[0]? = some t) (h1 : argTypes[1]? = some t2) (ht : P.underlying t = some (.slice e)) (ht2 : P.underlying t2 = some d2)
    (hd2 : (∃ z, d2 = .slice z) ∨ d2 = .string) (hi : P.info? e = some i) {w w' : World} {ad : Addr} {sLen sCap m : Nat} {x : Value} {new : Array Value}
    (hm : ∀ w, (Builtin.lenOf x).run P w = .ok m w) (hroom : sLen + m ≤ sCap) (hn : (Builtin.firstCells i.size m x).run P w = .ok new w)
    (hst : (storeCells (ad.add (sLen * i.size)) new.toList).run P w = .ok () w') :
    (Builtin.append_ argTypes ty #[.slice (some ad) sLen sCap, x]).run P w = .ok (.slice (some ad) (sLen + m) sCap) w' := by
  rcases hd2 with ⟨z, rfl⟩ | rfl <;> simp [Builtin.append_, h0, h1, run_under ht, run_under ht2, run_size hi, hm, hroom, hn, hst]
theorem app_none {argTypes : Array TypeId} {ty t t2 e : TypeId} {i : TypeInfo} {d2 : TypeDesc} (h0 : argTypes[0]? = some t) (h1 : argTypes[1]? = some t2) (ht : P.underlying t = some (.slice e)) (ht2 : P.underlying t2 = some d2)
    (hd2 : (∃ z, d2 = .slice z) ∨ d2 = .string) (hi : P.info? e = some i) {w : World} {ad : Option Addr} {sLen sCap : Nat} {x : Value}
    (hm : ∀ w, (Builtin.lenOf x).run P w = .ok 0 w) (hroom : sLen ≤ sCap) (hn : (Builtin.firstCells i.size 0 x).run P w = .ok #[] w) :
    (Builtin.append_ argTypes ty #[.slice ad sLen sCap, x]).run P w = .ok (.slice ad sLen sCap) w := by
  rcases hd2 with ⟨z, rfl⟩ | rfl <;> cases ad <;> simp [Builtin.append_, h0, h1, run_under ht, run_under ht2, run_size hi, hm, hroom, hn, storeCells]
/-- An append where there is none. -/
theorem app_grow {argTypes : Array TypeId} {ty t t2 e : TypeId} {i : TypeInfo} {v : Value} {d2 : TypeDesc} (h0 : argTypes[0]? = some t) (h1 : argTypes[1]? = some t2) (ht : P.underlying t = some (.slice e)) (ht2 : P.underlying t2 = some d2)
    (hd2 : (∃ z, d2 = .slice z) ∨ d2 = .string) (hi : P.info? e = some i) (hz : i.zero = some v) {w : World} {ad : Option Addr} {sLen sCap m : Nat} {x : Value} {old new : Array Value}
    (hm : ∀ w, (Builtin.lenOf x).run P w = .ok m w) (hroom : sCap < sLen + m) (h63 : sLen + m < 1000000000) (hby : i.bytes * (2 * (sLen + m) + 768) ≤ 281474976710656)
    (ho : (Builtin.firstCells i.size sLen (.slice ad sLen sCap)).run P w.drew = .ok old w.drew) (hn : (Builtin.firstCells i.size m x).run P w.drew = .ok new w.drew) :
    ∃ newCap, sLen + m ≤ newCap ∧ (Builtin.append_ argTypes ty #[.slice ad sLen sCap, x]).run P w = .ok (.slice (some ⟨w.heap.size, 0, none⟩) (sLen + m) newCap)
      (w.drew.alloc (.cells (old ++ new ++ Builtin.zeroCells v.cells (newCap - (sLen + m))) e)) := by
  have hr : ¬ (sLen + m ≤ sCap) := by omega
  have hi63 : ¬ ((IntKind.i64.max : Int) < ((sLen : Int) + (m : Int))) := by simp [IntKind.max, IntKind.bits, IntKind.signed]; omega
  have h48 : ¬ (2 ^ 48 < Builtin.nextslicecap (sLen + m) sCap * i.bytes) := by
    have := cap_le (sLen + m) sCap (by omega)
    have h2 : Builtin.nextslicecap (sLen + m) sCap * i.bytes ≤ (2 * (sLen + m) + 768) * i.bytes := Nat.mul_le_mul_right _ this
    rw [Nat.mul_comm (2 * (sLen + m) + 768) i.bytes] at h2
    omega
  refine ⟨(Question.appendCap (sLen + m) sCap e).cut (w.tape w.drawn (.appendCap (sLen + m) sCap e)), by simp [Question.cut], ?_⟩
  have hf : (Question.appendCap (sLen + m) sCap e).forced = false := rfl
  rcases hd2 with ⟨z, rfl⟩ | rfl <;>
    (simp [Builtin.append_, h0, h1, run_under ht, run_under ht2, run_size hi, run_info hi, run_zero hi hz, hm, hr, h48, hf, ho, hn, newRow]; intro hq; omega)
theorem getD_l {l r : List AV} {p : Nat} (h : p < l.length) : (l ++ r).getD p .u = l.getD p .u := by simp [List.getD, List.getElem?_append_left h]
theorem getD_r {l r : List AV} {p : Nat} (h : l.length ≤ p) : (l ++ r).getD p .u = r.getD (p - l.length) .u := by simp [List.getD, List.getElem?_append_right h]
theorem ite_bad {c : Prop} [Decidable c] {x : Res} {n : Nat} (h : (if c then x else Ev.bad n) = .ok r) : c ∧ x = .ok r := by
  rcases ite_ok h with h | ⟨_, h⟩
  · exact h
  · exact bad_ok h
theorem run_app {cc : Call} (ho : o.op = .call cc) (hc : cc.callee = .builtin .append) (ha : cc.args = #[u, y]) {a : Act} {w w' : World} {v : Value}
    (hr : (Builtin.append_ cc.argTypes o.type #[a.eval u, a.eval y]).run P w = .ok v w') : (execOp a.eval o).run P w = .ok (.value v) w' := by
  simp [execOp, ho, resolve, hc, ha, invoke, builtin, hr]
/-- The new row of an append. -/
theorem grow_row {ρ : Rn} {h : Hp} {w : World} (s : Sim P base ρ h w) (hn : h.nx < 32768) {e : TypeId} {l : List AV} {old new : List Value} {z : Array Value} {t : CT} {q : Nat} (rl : RL P ρ l (old ++ new)) (hr : l.length ≤ t.room)
    (ht : ∀ p, p < l.length → t.get p = l.getD p .u) :
    ∃ ρ', Stp P base ρ h w ρ' ⟨hput (idOf h.nx) (.c true e l.length t) h.t, Nat.succ h.nx⟩ (w.drew.alloc (.cells (old.toArray ++ new.toArray ++ Builtin.zeroCells z q) e)) ∧ ρ'.blk (idOf h.nx) = some w.heap.size ∧
      ρ'.csz (idOf h.nx) = l.length + q * z.size ∧ ρ'.ext (idOf h.nx) = l.length ∧ ρ'.ty (idOf h.nx) = e := by
  have hl := rl.length
  rw [List.length_append] at hl
  have hsz : (old.toArray ++ new.toArray ++ Builtin.zeroCells z q).size = l.length + q * z.size := by simp [size_zeroCells, hl]
  have htk : ((old.toArray ++ new.toArray ++ Builtin.zeroCells z q).toList).take l.length = old ++ new := by
    rw [Array.toList_append, Array.toList_append, hl, ← List.length_append]
    exact List.take_left
  obtain ⟨ρ', st, e1, e2, e3, e4⟩ := (Stp.draw s).sim.row hn (lo := 0) (hi := 0) (vs := old.toArray ++ new.toArray ++ Builtin.zeroCells z q) (e := e) (l := l) (n := l.length) (t := t) rfl rfl (by rw [htk]; exact rl)
    (by omega) (fun j _ => by omega) hr ht
  exact ⟨ρ', (Stp.draw s).trans st, e1, e2.trans hsz, e3, e4⟩
theorem app_ok {cc : Call} {t t2 e : TypeId} {i : TypeInfo} {v : Value} {d2 : TypeDesc} (ho : o.op = .call cc) (hc : cc.callee = .builtin .append) (ha : cc.args = #[u, y]) (hu : okO P u = true) (hy : okO P y = true)
    (h0 : cc.argTypes[0]? = some t) (h1 : cc.argTypes[1]? = some t2) (ht : P.underlying t = some (.slice e)) (ht2 : P.underlying t2 = some d2) (hd2 : (∃ z, d2 = .slice z) ∨ d2 = .string)
    (hi : P.info? e = some i) (hz : i.zero = some v) (hvs : v.cells.size = i.size) (hpos : i.size ≠ 0) : XS P base N cl (xApp e i.size i.bytes (opA u) (opA y)) o := .of fun F h k ρ w a fr s hx => by
  have hcs : P.cellsOf e = i.size := by simp [Program.cellsOf, hi]
  have rc := opA_ok fr s hu
  obtain ⟨m, l, hx, hlen, hm, hcells⟩ := srcOf_ok s (opA_ok fr s hy) hx
  cases m with
  | zero =>
    obtain ⟨cs, hn, hl0⟩ := hcells w 0 rfl (Nat.le_refl _)
    rw [Nat.zero_mul, List.take_zero] at hl0
    simp only [RL] at hl0
    subst hl0
    rcases asSl_ok hx with ⟨hb, hx⟩ | ⟨b, n, len, hb, hx⟩
    · rw [hb] at rc
      have rc' := rc
      simp only [RV] at rc
      refine ⟨ρ, .sl0, h, .slice none 0 0, w, .refl s, by simp only [RV], hx, run_app ho hc ha ?_⟩
      rw [rc]; exact app_none h0 h1 ht ht2 hd2 hi hm (Nat.le_refl _) hn
    · rw [hb] at rc
      have rc' := rc
      simp only [RV] at rc
      obtain ⟨q, ad, cap, hq, he, hcap, _⟩ := rc
      refine ⟨ρ, .sl b n len, h, a.eval u, w, .refl s, rc', hx, run_app ho hc ha ?_⟩
      rw [he]; exact app_none h0 h1 ht ht2 hd2 hi hm hcap hn
  | succ m =>
    have hx1 : cif (allSc l) _ (Ev.bad 34) = Res.ok _ := hx
    rw [cif_eq] at hx1
    obtain ⟨hsc, hx2⟩ := ite_bad hx1
    have hfull : l.take ((m + 1) * i.size) = l := by rw [← hlen]; exact List.take_length
    rcases asSl_ok hx2 with ⟨hb, hx3⟩ | ⟨b, n, len, hb, hx3⟩
    · rw [hb] at rc; simp only [RV] at rc
      rw [cif_eq] at hx3
      obtain ⟨hby, hx4⟩ := ite_bad hx3
      obtain ⟨h4, hnx, hx5⟩ := newC_ok hx4
      have hby' : i.bytes * (2 * (0 + (m + 1)) + 768) ≤ 281474976710656 := by rw [Nat.zero_add]; exact Nat.le_of_ble_eq_true hby
      have hm4 : (m + 1) ≤ 4096 := by
        have : (m + 1) * 1 ≤ (m + 1) * i.size := Nat.mul_le_mul_left _ (by omega)
        rw [← hlen] at this; omega
      obtain ⟨cs, hn, hrl⟩ := hcells w.drew (m + 1) rfl (Nat.le_refl _)
      rw [hfull] at hrl
      obtain ⟨nc, hnc, hrun⟩ := app_grow (ty := o.type) (argTypes := cc.argTypes) (w := w) (ad := none) (sLen := 0) (sCap := 0) (old := #[]) (new := cs.toArray) h0 h1 ht ht2 hd2 hi hz hm (by omega) (by omega) hby' (by simp [Builtin.firstCells]) hn
      obtain ⟨g1, g2⟩ := lay_new l h4
      obtain ⟨ρ', st, e1, e2, e3, e4⟩ := grow_row s hnx (e := e) (l := l) (old := []) (new := cs) (z := v.cells) (t := CT.lay l 0 CT.z) (q := nc - (0 + (m + 1))) hrl g1 g2
      refine ⟨ρ', _, _, .slice (some ⟨w.heap.size, 0, none⟩) (0 + (m + 1)) nc, _, st, ?_, hx5, run_app ho hc ha (by rw [rc]; exact hrun)⟩
      simp only [RV]
      refine ⟨_, ⟨w.heap.size, 0, none⟩, nc, e1, by rw [Nat.zero_add], by omega, .inl ⟨by rw [st.off0 e1], ?_, ?_⟩⟩
      · rw [e2, e4, hcs, hlen, hvs, ← Nat.add_mul, show m + 1 + (nc - (0 + (m + 1))) = nc by omega, Nat.zero_add]
        exact Nat.le_refl _
      · rw [e3, e4, hcs, hlen]
        rw [Nat.zero_add]; exact Nat.mul_le_mul_right _ (by omega)
    · rw [hb] at rc; simp only [RV] at rc
      obtain ⟨q, ad, cap, hq, he, hcap, hd⟩ := rc
      obtain ⟨own, e1, ex, ct, hct, hx4⟩ := cellsAt_ok hx3
      rw [cif_eq] at hx4
      obtain ⟨hg, hx5⟩ := ite_bad hx4
      simp only [an_eq, Bool.and_eq_true, Nat.beq_eq] at hg
      obtain ⟨hown, hee⟩ := hg
      subst hown; subst hee
      simp only [natF_eq] at hx5
      rw [cif_eq] at hx5
      obtain ⟨k1, k2, k3, cs0, lo, hi0, hw0, k5, k6, k7, k8⟩ := s.cells hq hct
      have z := s.zero hq hct
      rw [k1, k2, hcs, z, Nat.zero_add] at hd
      have e2 : ∀ x y : Nat, Nat.add x y = x + y := fun _ _ => rfl
      have e3 : ∀ x y : Nat, Nat.mul x y = x * y := fun _ _ => rfl
      simp only [e2, e3] at hx5
      rcases ite_ok hx5 with ⟨hend, hx6⟩ | ⟨hend, hx6⟩
      · -- room that is known
        have hend' : n + (len + (m + 1)) * i.size ≤ ex := Nat.le_of_ble_eq_true hend
        rcases hd with ⟨had, hc1, hc2⟩ | ⟨hl0, hc0, hc2⟩
        · subst had
          have hroom : len + (m + 1) ≤ cap := by
            have : (len + (m + 1)) * i.size ≤ cap * i.size := by omega
            exact Nat.le_of_mul_le_mul_right this (Nat.pos_of_ne_zero hpos)
          obtain ⟨cs, hn, hrl⟩ := hcells w (m + 1) rfl (Nat.le_refl _)
          rw [hfull] at hrl
          have hmul : (len + (m + 1)) * i.size = len * i.size + (m + 1) * i.size := Nat.add_mul ..
          obtain ⟨f1, f2⟩ := setL_ok l (n + len * i.size) ct (by rw [hlen]; omega)
          obtain ⟨w', hst, st⟩ := s.store hq hct (o := n + len * i.size) hrl (allSc_ok hsc hrl) (by rw [hlen]; omega) f1 f2
          rw [z, Nat.zero_add] at hst
          refine ⟨ρ, _, _, .slice (some ⟨q, n, none⟩) (len + (m + 1)) cap, w', st, ?_, hx6, run_app ho hc ha ?_⟩
          · simp only [RV]
            exact ⟨q, _, _, hq, rfl, hroom, .inl ⟨by rw [z, Nat.zero_add], by rw [k2, hcs]; exact hc1, by rw [k1, k2, hcs]; exact hc2⟩⟩
          · rw [he]; exact app_room h0 h1 ht ht2 hd2 hi hm hroom hn (by rw [add_eq]; exact hst)
        · exfalso
          have : 1 * i.size ≤ (len + (m + 1)) * i.size := Nat.mul_le_mul_right _ (by omega)
          omega
      · rw [cif_eq] at hx6
        obtain ⟨hg, hx7⟩ := ite_bad hx6
        simp only [an_eq, Bool.and_eq_true, Nat.beq_eq] at hg
        obtain ⟨hn0, hat, h4, hby⟩ := hg
        subst hn0
        have hat' : len * i.size ≤ ex := by have := Nat.le_of_ble_eq_true hat; omega
        have h4' : (len + (m + 1)) * i.size ≤ 4096 := by have := Nat.le_of_ble_eq_true h4; omega
        have hby' : i.bytes * (2 * (len + (m + 1)) + 768) ≤ 281474976710656 := Nat.le_of_ble_eq_true hby
        have hmul : (len + (m + 1)) * i.size = len * i.size + (m + 1) * i.size := Nat.add_mul ..
        have hm4 : len + (m + 1) ≤ 4096 := by
          have : (len + (m + 1)) * 1 ≤ (len + (m + 1)) * i.size := Nat.mul_le_mul_left _ (by omega)
          omega
        have hx8 : cif (Nat.ble 32768 h.nx) (Res.bad 9 .u) (idF (idOf h.nx) fun b1 => k (.sl b1 0 (len + (m + 1))) ⟨hput b1 (.c true e (0 + (len + (m + 1)) * i.size) (CT.lay l (0 + len * i.size) ct)) (hput b .no h.t), Nat.succ h.nx⟩) = .ok _ := hx7
        rw [cif_eq, idF_eq] at hx8
        rcases ite_ok hx8 with ⟨_, hx9⟩ | ⟨hnx', hx9⟩
        · exact bad_ok hx9
        have hnx : h.nx < 32768 := Nat.lt_of_not_le fun q => hnx' (Nat.ble_eq_true_of_le q)
        rw [Nat.zero_add, Nat.zero_add] at hx9
        obtain ⟨c1, c2, c3⟩ := CT.lay_ok l (len * i.size) ct (by omega) (by rw [hlen]; omega)
        -- the new row's cells, as a list
        have hlist : ∀ old new : List Value, RL P ρ (ct.cells (len * i.size) 0) old → RL P ρ l new → RL P ρ (ct.cells (len * i.size) 0 ++ l) (old ++ new) := fun _ _ => RL.append
        have hll : (ct.cells (len * i.size) 0 ++ l).length = (len + (m + 1)) * i.size := by rw [List.length_append, cells_eq]; simp [hlen, hmul]
        have hget : ∀ p, p < (len + (m + 1)) * i.size → (CT.lay l (len * i.size) ct).get p = (ct.cells (len * i.size) 0 ++ l).getD p .u := by
          intro p hp
          rw [c3 p (by rw [hlen]; omega) (by omega)]
          by_cases g : len * i.size ≤ p
          · rw [if_pos g, getD_r (by rw [cells_eq]; simpa using g), cells_eq]; simp
          · rw [if_neg g, getD_l (by rw [cells_eq]; simpa using Nat.lt_of_not_le g), cells_eq]
            simp [List.getD, Nat.lt_of_not_le g]
        have hcap0 : ad = ⟨q, 0, none⟩ ∨ len = 0 := hd.elim (fun g => .inl g.1) fun g => .inr g.1
        by_cases hroom : len + (m + 1) ≤ cap
        · -- the old block has room
          rcases hd with ⟨had, hc1, hc2⟩ | ⟨hl0, hc0, hc2⟩
          rotate_left
          · omega
          subst had
          rw [Nat.zero_add] at hc1 hc2
          obtain ⟨hba, hfz⟩ := k8 rfl
          obtain ⟨cs, hn, hrl⟩ := hcells w (m + 1) rfl (Nat.le_refl _)
          rw [hfull] at hrl
          have hcl : cs.length = (m + 1) * i.size := by rw [← hrl.length, hlen]
          have hfit : len * i.size + (m + 1) * i.size ≤ cs0.size := by
            have : (len + (m + 1)) * i.size ≤ cap * i.size := Nat.mul_le_mul_right _ hroom
            rw [k5]; omega
          obtain ⟨w', cs', q1, q2, q3, q4, q5, q6, q7, q8, q9⟩ := storeCells_ok (P := P) q (len * i.size) e lo hi0 cs 0 w cs0 hw0 (by rw [hcl]; omega) (allSc_ok hsc hrl) (fun j hj => hfz j (.inl hj))
          have st := Stp.grow s hnx hq (.inl ⟨e, ex, ct, hct⟩) hba (ob := .c true e ((len + (m + 1)) * i.size) (CT.lay l (len * i.size) ct)) (csz := ρ.csz b) (ext := (len + (m + 1)) * i.size) (ty := e) q2 q3 q7 q8 q9
            fun ρ' hρ hle => by
              subst hρ
              refine ⟨by simp [Rn.add], by simp [Rn.add], by rw [hmul, ← hlen]; exact c1, cs', lo, hi0, ⟨_, q4, fun _ => rfl⟩, by rw [q5, k5]; simp [Rn.add], by rw [q5]; simp [Rn.add]; omega, fun j hj => ?_, fun _ => ⟨hba, fun j hj => hfz j (by rw [show cs0.size = cs'.size by omega]; exact hj)⟩⟩
              rw [show (ρ.add (idOf h.nx) q (ρ.csz b) ((len + (m + 1)) * i.size) e).off (idOf h.nx) = 0 by simp [Rn.add], Nat.zero_add]
              rw [hget j hj, q6 j]
              simp only [Nat.add_zero, hcl]
              by_cases g : len * i.size ≤ j
              · rw [if_pos ⟨g, by omega⟩, getD_r (by rw [cells_eq]; simpa using g), cells_eq]
                obtain ⟨v', r1, r2⟩ := hrl.get (j - len * i.size) (by rw [hlen]; omega)
                exact ⟨v', r1, RV.mono hle _ _ (by simpa using r2)⟩
              · rw [if_neg (by omega), getD_l (by rw [cells_eq]; simpa using Nat.lt_of_not_le g), cells_eq]
                obtain ⟨v', r1, r2⟩ := k7 j (by omega)
                exact ⟨v', r1, RV.mono hle _ _ (by simpa [List.getD, Nat.lt_of_not_le g] using r2)⟩
          refine ⟨_, _, _, .slice (some ⟨q, 0, none⟩) (len + (m + 1)) cap, w', st, ?_, hx9, run_app ho hc ha ?_⟩
          · simp only [RV]
            refine ⟨q, _, _, by simp [Rn.add], rfl, hroom, .inl ⟨by simp [Rn.add], ?_, ?_⟩⟩
            · simp [Rn.add, hcs]; exact hc1
            · simp [Rn.add, hcs]; exact Nat.mul_le_mul_right _ hroom
          · rw [he]; exact app_room h0 h1 ht ht2 hd2 hi hm hroom hn (by rw [add_eq, Nat.zero_add]; exact q1)
        · -- a new block
          have hold : ∃ old : List Value, (Builtin.firstCells i.size len (.slice (some ad) len cap)).run P w.drew = .ok old.toArray w.drew ∧ RL P ρ (ct.cells (len * i.size) 0) old := by
            rcases hcap0 with had | hl0
            · subst had
              obtain ⟨old, r1, r2⟩ := (s.world (w' := w.drew) rfl).load hq hct (o := 0) (m := len * i.size) (by omega)
              rw [z, Nat.zero_add] at r1
              exact ⟨old, by simp [Builtin.firstCells, r1], r2⟩
            · subst hl0
              exact ⟨[], by simp [Builtin.firstCells, loadCells, loadCellsFrom], by simp [CT.cells, RL]⟩
          obtain ⟨old, hold, hro⟩ := hold
          obtain ⟨cs, hn, hrl⟩ := hcells w.drew (m + 1) rfl (Nat.le_refl _)
          rw [hfull] at hrl
          obtain ⟨nc, hnc, hrun⟩ := app_grow (ty := o.type) (argTypes := cc.argTypes) (w := w) (ad := some ad) (sLen := len) (sCap := cap) (old := old.toArray) (new := cs.toArray) h0 h1 ht ht2 hd2 hi hz hm (by omega) (by omega) hby' hold hn
          have sk := Stp.kill s hq
          obtain ⟨ρ', st, r1, r2, r3, r4⟩ := grow_row sk.sim hnx (e := e) (l := ct.cells (len * i.size) 0 ++ l) (old := old) (new := cs) (z := v.cells) (t := CT.lay l (len * i.size) ct) (q := nc - (len + (m + 1))) (hlist _ _ hro hrl)
            (by rw [hll, hmul, ← hlen]; exact c1) (by rw [hll]; exact hget)
          rw [hll] at st r2 r3
          refine ⟨ρ', _, _, .slice (some ⟨w.heap.size, 0, none⟩) (len + (m + 1)) nc, _, sk.trans st, ?_, hx9, run_app ho hc ha (by rw [he]; exact hrun)⟩
          simp only [RV]
          refine ⟨_, _, _, r1, rfl, hnc, .inl ⟨by rw [st.off0 r1], ?_, ?_⟩⟩
          · rw [r2, r4, hcs, hvs, ← Nat.add_mul, show len + (m + 1) + (nc - (len + (m + 1))) = nc by omega, Nat.zero_add]
            exact Nat.le_refl _
          · rw [r3, r4, hcs, Nat.zero_add]; exact Nat.mul_le_mul_right _ hnc
end
end Go.Ev
namespace Go.Ev
open Go Go.RowKit
variable {r : DV}
section
variable {P : Program} {base N : Nat} {cl : Cl} {o : Oper} {u y c : Operand}
theorem copy_run {argTypes : Array TypeId} {ty t e : TypeId} {i : TypeInfo} (h0 : argTypes[0]? = some t) (ht : P.underlying t = some (.slice e)) (hi : P.info? e = some i) {w : World} {ad : Option Addr} {dLen dCap m : Nat} {x : Value} {new : Array Value}
    (hm : ∀ w, (Builtin.lenOf x).run P w = .ok m w) (hn : (Builtin.firstCells i.size (Nat.min m dLen) x).run P w = .ok new w) :
    (Builtin.copy_ argTypes ty #[.slice ad dLen dCap, x]).run P w = match ad with
      | none => .ok (goInt (Nat.min m dLen)) w
      | some a => ((storeCells a new.toList).run P w).andThen fun _ w => .ok (goInt (Nat.min m dLen)) w := by
  cases ad <;> simp [Builtin.copy_, h0, run_under ht, run_size hi, hm, hn]
theorem cpy_ok {cc : Call} {t e : TypeId} {i : TypeInfo} (ho : o.op = .call cc) (hc : cc.callee = .builtin .copy) (ha : cc.args = #[u, y]) (hu : okO P u = true) (hy : okO P y = true)
    (h0 : cc.argTypes[0]? = some t) (ht : P.underlying t = some (.slice e)) (hi : P.info? e = some i) : XS P base N cl (xCpy i.size (opA u) (opA y)) o := .of fun F h k ρ w a fr s hx => by
  have run : ∀ {v w'}, (Builtin.copy_ cc.argTypes o.type #[a.eval u, a.eval y]).run P w = .ok v w' → (execOp a.eval o).run P w = .ok (.value v) w' := fun hr => by
    simp [execOp, ho, resolve, hc, ha, invoke, builtin, hr]
  have rc := opA_ok fr s hu
  obtain ⟨m, l, hx, hlen, hm, hcells⟩ := srcOf_ok s (opA_ok fr s hy) hx
  rw [cif_eq] at hx
  obtain ⟨hsc, hx2⟩ := ite_bad hx
  rcases asSl_ok hx2 with ⟨hb, hx3⟩ | ⟨b, n, len, hb, hx3⟩
  · rw [hb] at rc; simp only [RV] at rc
    obtain ⟨cs, hn, _⟩ := hcells w 0 rfl (Nat.zero_le _)
    refine ⟨ρ, _, h, .int .i64 (0 : Nat), w, .refl s, by simp only [RV]; rfl, hx3, run ?_⟩
    have e0 : Nat.min m 0 = 0 := Nat.min_zero m
    rw [rc, copy_run (dLen := 0) h0 ht hi hm (by rw [e0]; exact hn)]
    simp only [e0]; rfl
  · rw [hb] at rc; simp only [RV] at rc
    obtain ⟨q, ad, cap, hq, he, hcap, hd⟩ := rc
    simp only [natF_eq] at hx3
    have hmin : (cif (Nat.ble m len) m len : Nat) = Nat.min m len := by
      rw [cif_eq]
      split
      · rename_i g; exact (Nat.min_eq_left (Nat.le_of_ble_eq_true g)).symm
      · rename_i g; exact (Nat.min_eq_right (Nat.le_of_lt (Nat.lt_of_not_le fun q => g (Nat.ble_eq_true_of_le q)))).symm
    rw [hmin] at hx3
    obtain ⟨own, e1, ex, ct, hct, hx4⟩ := cellsAt_ok hx3
    rw [cif_eq] at hx4
    obtain ⟨hg, hx5⟩ := ite_bad hx4
    simp only [an_eq, Bool.and_eq_true] at hg
    obtain ⟨hown, hle⟩ := hg
    subst hown
    have hle' : n + Nat.min m len * i.size ≤ ex := Nat.le_of_ble_eq_true hle
    have hmm : Nat.min m len ≤ m := Nat.min_le_left ..
    obtain ⟨cs, hn, hrl⟩ := hcells w (Nat.min m len) rfl hmm
    have e3 : ∀ x y : Nat, Nat.mul x y = x * y := fun _ _ => rfl
    rw [takeL_eq, e3] at hx5
    have hmul : Nat.min m len * i.size ≤ m * i.size := Nat.mul_le_mul_right _ hmm
    have hlt : (l.take (Nat.min m len * i.size)).length = Nat.min m len * i.size := by
      rw [List.length_take, hlen]; exact Nat.min_eq_left hmul
    have hroom := (s.cells hq hct).2.2.1
    obtain ⟨f1, f2⟩ := setL_ok (l.take (Nat.min m len * i.size)) n ct (by rw [hlt]; exact Nat.le_trans hle' hroom)
    have had : ad = ⟨q, ρ.off b + n, none⟩ ∨ Nat.min m len = 0 := hd.elim (fun g => .inl g.1) fun g => .inr (Nat.le_zero.1 (Nat.le_trans (Nat.min_le_right m len) (Nat.le_of_eq g.1)))
    obtain ⟨w', hst, st⟩ := s.store hq hct (o := n) hrl (allSc_ok (allSc_take _ hsc) hrl) (by rw [hlt]; exact hle') f1 f2
    refine ⟨ρ, _, _, .int .i64 (Nat.min m len : Nat), w', st, by simp only [RV]; rfl, hx5, run ?_⟩
    rw [he, copy_run h0 ht hi hm hn]
    rcases had with rfl | h0'
    · show ((storeCells ⟨q, ρ.off b + n, none⟩ cs).run P w).andThen _ = _
      rw [hst]; rfl
    · have hcs0 : cs = [] := by
        have := hrl.length
        rw [hlt, h0', Nat.zero_mul] at this
        exact List.length_eq_zero_iff.1 this.symm
      subst hcs0
      have : w' = w := by
        have h1 : (storeCells ⟨q, ρ.off b + n, none⟩ []).run P w = .ok () w := rfl
        rw [h1] at hst; cases hst; rfl
      subst this
      rfl
theorem codeOf_ok {ρ : Rn} : ∀ {l : List AV} {l' : List Value} {k : Nat → Res}, codeOf l k = .ok r → RL P ρ l l' → ∃ bs : List UInt8, l' = (bs.map fun b => Value.int .u8 (b.toNat : Nat)) ∧ bs.length = l.length ∧ k (encB bs) = .ok r
  | [], l', k, h, rl => by simp only [RL] at rl; subst rl; exact ⟨[], rfl, rfl, h⟩
  | v :: r, l', k, h, rl => by
    simp only [RL] at rl
    obtain ⟨b, y, rfl, hb, hy⟩ := rl
    have h' : asI v (fun kd n => Int.rec (motive := fun _ => Res) (fun n => cif (an (Nat.beq (kn kd) 4) (Nat.ble n 255)) (codeOf r fun c => natF (Nat.add n (Nat.mul 256 c)) k) (Ev.bad 27)) (fun _ => Ev.bad 27) n) = .ok _ := h
    obtain ⟨kd, n, rfl, h1⟩ := asI_ok h'
    cases n with
    | negSucc n => exact bad_ok h1
    | ofNat n =>
      have h2 : cif (an (Nat.beq (kn kd) 4) (Nat.ble n 255)) (codeOf r fun c => natF (Nat.add n (Nat.mul 256 c)) k) (Ev.bad 27) = .ok _ := h1
      rw [cif_eq] at h2
      obtain ⟨h3, h4⟩ := ite_bad h2
      simp only [an_eq, Bool.and_eq_true] at h3
      have hk : kd = .u8 := kn_inj h3.1
      have hn : n ≤ 255 := Nat.le_of_ble_eq_true h3.2
      subst hk
      simp only [natF_eq] at h4
      obtain ⟨bs, e1, e2, e3⟩ := codeOf_ok h4 hy
      simp only [RV] at hb
      have hn' : (UInt8.ofNat n).toNat = n := by rw [UInt8.toNat_ofNat']; exact Nat.mod_eq_of_lt (by omega)
      exact ⟨UInt8.ofNat n :: bs, by rw [hb, e1, List.map_cons, hn']; rfl, by simp [e2], by rw [encB_cons, hn']; exact e3⟩
theorem push_all : ∀ (bs : List UInt8) (r : ByteArray), ((bs.map fun b => (b.toNat : Int)).foldl (fun r n => r.push (UInt8.ofNat n.toNat)) r).data.toList = r.data.toList ++ bs
  | [], r => by simp
  | b :: bs, r => by
    rw [List.map_cons, List.foldl_cons, push_all bs]
    simp [ByteArray.push]
theorem cvBS_ok {src dst e : TypeId} (ho : o.op = .convert src dst u) (hu : okO P u = true) (hs : P.underlying src = some (.slice e)) (hd : P.underlying dst = some .string) (he : P.underlying e = some (.int .u8)) :
    XS P base N cl (xCvBS (opA u)) o := .pure fun F h k ρ w a fr s hx => by
  have rc := opA_ok fr s hu
  rcases asSl_ok hx with ⟨hb, hx⟩ | ⟨b, n, len, hb, hx⟩
  · rw [hb] at rc; simp only [RV] at rc
    exact ⟨_, .string .empty, by simp only [RV]; exact ⟨_, rfl, rfl, rfl⟩, hx, by simp [execOp, ho, rc, convert, run_under hs, run_under hd, run_under he, Conv.bytesToString]⟩
  · rw [hb] at rc; simp only [RV] at rc
    obtain ⟨q, ad, cap, hq, hv, hcap, hdj⟩ := rc
    obtain ⟨own, e1, m, t, hc, hx⟩ := cellsAt_ok hx
    rw [cif_eq] at hx
    obtain ⟨hle, hx2⟩ := ite_bad hx
    have hle' : n + len ≤ m := Nat.le_of_ble_eq_true hle
    obtain ⟨l, h1, h2⟩ := s.load hq hc (o := n) (m := len) hle'
    obtain ⟨bs, g1, g2, g3⟩ := codeOf_ok hx2 h2
    have hbl : bs.length = len := by rw [g2, cells_eq]; simp
    have hload : (loadCells ad len).run P w = .ok ((bs.map fun b => (b.toNat : Int)).map (Value.int .u8)).toArray w := by
      rcases hdj with ⟨rfl, _⟩ | ⟨h0, _⟩
      · rw [h1, g1, List.map_map]; rfl
      · subst h0
        have : bs = [] := List.length_eq_zero_iff.1 hbl
        subst this
        simp [loadCells, loadCellsFrom]
    refine ⟨_, _, ?_, g3, by simp [execOp, ho, hv, convert, run_under hs, run_under hd, run_under he, run_bytesToString w ad len cap _ hload]; rfl⟩
    simp only [RV]
    exact ⟨_, rfl, by rw [push_all]; simpa using hbl, by rw [push_all]; rfl⟩
theorem freeze_new (w : World) (vs : Array Value) (e : TypeId) (n : Nat) : (w.alloc (.cells vs e)).freeze ⟨w.heap.size, n, none⟩ 1 = w.alloc (.cells vs e (n, n + 1)) := by
  have h : ((w.heap.push (Obj.cells vs e)).modify w.heap.size fun
      | .cells c elem (lo, hi) => .cells c elem (if lo == hi then (n, n + 1) else (min lo n, max hi (n + 1)))
      | o => o) = w.heap.push (.cells vs e (n, n + 1)) := by
    apply Array.ext_getElem?
    intro j
    rw [Array.getElem?_modify, Array.getElem?_push, Array.getElem?_push]
    by_cases g : j = w.heap.size
    · subst g; simp
    · rw [if_neg (Ne.symm g), if_neg g, if_neg g]
  unfold World.freeze
  rw [if_neg (by omega)]
  exact congrArg (fun x => { w with heap := x }) h
theorem cvSB_ok {src dst e : TypeId} (ho : o.op = .convert src dst u) (hu : okO P u = true) (hs : P.underlying src = some .string) (hd : P.underlying dst = some (.slice e)) (he : P.underlying e = some (.int .u8)) (h1 : P.cellsOf e = 1) :
    XS P base N cl (xCvSB e (opA u)) o := .of fun F h k ρ w a fr s hx => by
  obtain ⟨n, c, hb, hx⟩ := asS_ok hx
  have rc := opA_ok fr s hu
  rw [hb] at rc; simp only [RV] at rc
  obtain ⟨str, hv, g1, g2⟩ := rc
  obtain ⟨h4, hnx, hx2⟩ := newC_ok hx
  have key : ∀ l : List UInt8, RL P ρ (bytesOf l.length (encB l)) (l.map fun b => Value.int .u8 (b.toNat : Nat)) ∧ (bytesOf l.length (encB l)).length = l.length := by
    intro l
    induction l with
    | nil => exact ⟨by simp [bytesOf, RL], rfl⟩
    | cons b r ih =>
      have h3 : b.toNat < 256 := b.toNat_lt
      have e1 : bytesOf (b :: r).length (encB (b :: r)) = .i .u8 (.ofNat (encB (b :: r) % 256)) :: bytesOf r.length (encB (b :: r) / 256) := rfl
      have e2 : encB (b :: r) % 256 = b.toNat := by rw [encB_cons]; omega
      have e3 : encB (b :: r) / 256 = encB r := by rw [encB_cons]; omega
      rw [e1, e2, e3]
      refine ⟨?_, by simp [ih.2]⟩
      simp only [List.map_cons, RL, RV]
      exact ⟨_, _, rfl, rfl, ih.1⟩
  obtain ⟨k1, k2⟩ := key str.data.toList
  rw [g1, g2] at k1 k2
  have z1 : str.size = n := by rw [← g1]; rfl
  have hq : (Question.appendCap n 0 e).forced = false := rfl
  have hqc : n ≤ (Question.appendCap n 0 e).cut (w.tape w.drawn (.appendCap n 0 e)) := by simp [Question.cut]
  generalize hcap : (Question.appendCap n 0 e).cut (w.tape w.drawn (.appendCap n 0 e)) = cap at hqc
  have hrun : (Conv.stringToBytes e str).run P w = .ok (.slice (some ⟨w.heap.size, 0, none⟩) n cap) (w.drew.alloc (.cells ((str.data.map fun b => Value.int .u8 (b.toNat : Nat)) ++ Array.replicate (cap - n) (.int .u8 0)) e (cap, cap + 1))) := by
    have hsz : ((str.data.map fun b => Value.int .u8 (b.toNat : Nat)) ++ Array.replicate (cap - n) (Value.int .u8 0)).size = cap := by
      have : str.data.size = n := z1
      simp [this]; omega
    have hshape : (w.drew.alloc (.cells ((str.data.map fun b => Value.int .u8 (b.toNat : Nat)) ++ Array.replicate (cap - n) (.int .u8 0)) e)).shape? w.heap.size = some (e, cap) := by
      have hg : (w.drew.alloc (.cells ((str.data.map fun b => Value.int .u8 (b.toNat : Nat)) ++ Array.replicate (cap - n) (.int .u8 0)) e)).heap[w.heap.size]? = some (.cells ((str.data.map fun b => Value.int .u8 (b.toNat : Nat)) ++ Array.replicate (cap - n) (.int .u8 0)) e) := by
        show (w.heap.push _)[w.heap.size]? = _; simp
      simp only [World.shape?, hg, hsz]
    unfold Conv.stringToBytes
    simp only [Sem.run_bind, run_choose, z1, hq, hcap, Bool.false_eq_true, if_false, Result.andThen_ok, World.drew_eq, newRow, run_newObj, World.alloc_eq, Sem.run_pure, markStringish, World.size_drew, run_shape, hshape, run_freeze]
    rw [show (⟨w.heap.size, cap, none⟩ : Addr) = ⟨w.drew.heap.size, cap, none⟩ from rfl, freeze_new]
  obtain ⟨ρ', st, e1, e2, e3, e4⟩ := (Stp.draw s).sim.row hnx (lo := cap) (hi := cap + 1) (vs := (str.data.map fun b => Value.int .u8 (b.toNat : Nat)) ++ Array.replicate (cap - n) (.int .u8 0)) (e := e) (l := bytesOf n c) (n := (bytesOf n c).length)
    (t := CT.lay (bytesOf n c) 0 CT.z) rfl rfl
    (by
      rw [k2, Array.toList_append, Array.toList_map]
      rw [List.take_left' (by simpa using g1)]
      exact k1)
    (by rw [k2]; simp; have : str.data.size = n := z1; omega) (fun j hj => by
      have : str.data.size = n := z1
      rcases hj with hj | ⟨_, hj⟩
      · simp [this] at hj; omega
      · exact absurd he hj) (lay_new _ h4).1 (lay_new _ h4).2
  refine ⟨ρ', _, _, .slice (some ⟨w.heap.size, 0, none⟩) n cap, _, (Stp.draw s).trans st, ?_, hx2, by simp [execOp, ho, hv, convert, run_under hs, run_under hd, run_under he, hrun]⟩
  simp only [RV]
  refine ⟨_, _, _, e1, rfl, hqc, .inl ⟨by rw [st.off0 e1]; rfl, ?_, ?_⟩⟩
  · rw [e2, e4, h1]; have : str.data.size = n := z1; simp [this]; omega
  · rw [e3, e4, h1, k2]; omega
theorem ta_ok {t0 t : TypeId} {ok : Bool} {i : TypeInfo} {v : Value} {d : TypeDesc} (ho : o.op = .typeAssert u t0 t ok) (hu : okO P u = true) (ht : P.underlying t = some d) (hd : ∀ ms, d ≠ .interface ms) (hi : P.info? t = some i) (hz : i.zero = some v) :
    XS P base N cl (xTa t ok (valA v) (opA u)) o := .pure fun F h k ρ w a fr s hx => by
  have rc := opA_ok fr s hu
  have hx' : xTa t ok (valA v) (opA u) cl F h k = .ok _ := hx
  unfold xTa at hx'
  split at hx'
  · rename_i t' v' _ _ hv'
    rw [hv'] at rc; simp only [RV] at rc
    obtain ⟨x', hx1, rx⟩ := rc
    rw [cif_eq] at hx'
    rcases ite_ok hx' with ⟨h1, h2⟩ | ⟨h1, h2⟩
    · rw [Nat.beq_eq] at h1
      subst h1
      refine ⟨_, .tuple #[x', .bool true], by simp only [RV, RL]; exact ⟨_, rfl, _, _, rfl, rx, _, _, rfl, rfl, rfl⟩, h2, ?_⟩
      cases d <;> first | exact absurd rfl (hd _) | simp [execOp, ho, hx1, Instr.typeAssert, run_under ht]
    · rw [Nat.beq_eq] at h1
      refine ⟨_, .tuple #[v, .bool false], by simp only [RV, RL]; exact ⟨_, rfl, _, _, rfl, RV_valA v, _, _, rfl, rfl, rfl⟩, h2, ?_⟩
      cases d <;> first | exact absurd rfl (hd _) | simp [execOp, ho, hx1, Instr.typeAssert, run_under ht, run_zero hi hz, h1]
  · rename_i t' v' _ _ hv'
    rw [hv'] at rc; simp only [RV] at rc
    obtain ⟨x', hx1, rx⟩ := rc
    rw [cif_eq] at hx'
    obtain ⟨h1, h2⟩ := ite_bad hx'
    rw [Nat.beq_eq] at h1
    subst h1
    refine ⟨_, x', rx, h2, ?_⟩
    cases d <;> first | exact absurd rfl (hd _) | simp [execOp, ho, hx1, Instr.typeAssert, run_under ht]
  · rename_i _ _ hv'
    rw [hv'] at rc; simp only [RV] at rc
    refine ⟨_, .tuple #[v, .bool false], by simp only [RV, RL]; exact ⟨_, rfl, _, _, rfl, RV_valA v, _, _, rfl, rfl, rfl⟩, hx', ?_⟩
    cases d <;> first | exact absurd rfl (hd _) | simp [execOp, ho, rc, Instr.typeAssert, run_under ht, run_zero hi hz]
  · exact bad_ok hx'
end
end Go.Ev
namespace Go.Ev
open Go Go.RowKit
variable {r : DV}
/-! blocks, loops, scopes -/
def Md.items : Md → List Item
  | .plain => []
  | .scope b => [.inScope b]
  | .loop b => [.inLoop b]
/-- A piece of code where it stands. -/
def Md.wp (P : Program) (md : Md) (c : Code) (Q : Exit → Act → World → Prop) (a : Act) (w : World) : Prop :=
  ∀ (b : Frame) (k : List Item) (cs : List Frame), ∃ e a' w', Q e a' w' ∧ Arrives P (lone (b.at a (.code c :: (md.items ++ k))) cs w) b k cs e a' w'
section
variable {P : Program} {Q : Exit → Act → World → Prop} {a : Act} {w : World}
theorem md_plain {c : Code} (h : c.wp P Q a w) : Md.wp P .plain c Q a w := h
theorem wp_of_loop {c : Code} (h : Md.wp P (.loop c) c Q a w) : (Code.loop c).wp P Q a w := fun b k cs =>
  let ⟨e, a', w', q, r⟩ := h b k cs; ⟨e, a', w', q, .of_steps (.one step_loop) r⟩
theorem wp_of_scope {c : Code} (h : Md.wp P (.scope c) c Q a w) : (Code.scope c).wp P Q a w := fun b k cs =>
  let ⟨e, a', w', q, r⟩ := h b k cs; ⟨e, a', w', q, .of_steps (.one step_scope) r⟩
/-- In a loop: behind the body the loop goes on. -/
theorem md_loop {b c : Code} (h : c.wp P (Exit.then (fun a w => Md.wp P (.loop b) b Q a w) Q) a w) : Md.wp P (.loop b) c Q a w := fun fr k cs => by
  obtain ⟨e, a₁, w₁, hq, harr⟩ := h fr (.inLoop b :: k) cs
  cases e with
  | normal =>
    obtain ⟨e₂, a₂, w₂, hq₂, harr₂⟩ := hq fr k cs
    exact ⟨e₂, a₂, w₂, hq₂, .of_steps (Steps.trans harr (.one step_inLoop)) harr₂⟩
  | exit id => exact ⟨_, a₁, w₁, hq, .pass (x := .inLoop b) rfl (fun _ _ => .inl (by simp)) harr⟩
  | goto l => exact ⟨_, a₁, w₁, hq, .pass (x := .inLoop b) rfl (fun _ _ => .inl (by simp)) harr⟩
  | ret => exact ⟨_, a₁, w₁, hq, .pass (x := .inLoop b) rfl (fun _ _ => .inl (by simp)) harr⟩
  | panic ch => exact ⟨_, a₁, w₁, hq, .pass (x := .inLoop b) rfl (fun _ _ => .inl (by simp)) harr⟩
  | outgrown => exact ⟨_, a₁, w₁, hq, .pass (x := .inLoop b) rfl (fun _ _ => .inl (by simp)) harr⟩
/-- In a scope: a goto leads to its label. -/
def Exit.jumps (P : Program) (b : Code) (Q : Exit → Act → World → Prop) : Exit → Act → World → Prop
  | .goto l, a, w => match findLabel b l with
    | some rest => Md.wp P (.scope b) rest Q a w
    | none => Q (.goto l) a w
  | e, a, w => Q e a w
theorem md_scope {b c : Code} (h : c.wp P (Exit.jumps P b Q) a w) : Md.wp P (.scope b) c Q a w := fun fr k cs => by
  obtain ⟨e, a₁, w₁, hq, harr⟩ := h fr (.inScope b :: k) cs
  cases e with
  | normal => exact ⟨.normal, a₁, w₁, hq, Steps.trans harr (.one step_inScope)⟩
  | exit id => exact ⟨.exit id, a₁, w₁, hq, fun k' hk => harr k' (by simp [exitTo, hk])⟩
  | goto l =>
    unfold Exit.jumps at hq
    cases hf : findLabel b l with
    | none =>
      simp only [hf] at hq
      exact ⟨.goto l, a₁, w₁, hq, fun k' hk => harr k' (by simp [gotoIn, hf, hk])⟩
    | some rest =>
      simp only [hf] at hq
      obtain ⟨e₂, a₂, w₂, hq₂, harr₂⟩ := hq fr k cs
      exact ⟨e₂, a₂, w₂, hq₂, .of_steps (harr _ (by simp [gotoIn, hf, Md.items])) harr₂⟩
  | ret => exact ⟨_, a₁, w₁, hq, harr⟩
  | panic ch => exact ⟨_, a₁, w₁, hq, harr⟩
  | outgrown => exact ⟨_, a₁, w₁, hq, harr⟩
end

/-! what is put off -/
def DR (P : Program) (ρ : Rn) : List Dfr → List Deferred → Prop
  | [], l => l = []
  | d :: r, l => ∃ x y fn cap, l = x :: y ∧ x.target = .fn fn cap ∧ (∃ f1 c1 args, d.fn = .f fn f1 c1 ∧ RL P ρ c1 cap.toList ∧ x.args = args ∧ RL P ρ (f1 ++ d.args) args.toList) ∧ DR P ρ r y
theorem DR.mono {P : Program} {ρ ρ' : Rn} (h : ρ.le ρ') : ∀ {D : List Dfr} {l : List Deferred}, DR P ρ D l → DR P ρ' D l
  | [], _, k => k
  | _ :: _, _, ⟨x, y, fn, cap, h1, h2, ⟨f1, c1, args, h3, h4, h5, h6⟩, h7⟩ => ⟨x, y, fn, cap, h1, h2, ⟨f1, c1, args, h3, RL.mono h _ _ h4, h5, RL.mono h _ _ h6⟩, DR.mono h h7⟩
def ExR : Ex → Exit → Prop
  | .normal, e => e = .normal
  | .exit i, e => e = .exit i
  | .goto l, e => e = .goto l
  | .ret, e => e = .ret
/-- How a piece of code may end: as the evaluator goes on. -/
def QC (r : DV) (P : Program) (base N : Nat) (ρ : Rn) (h : Hp) (w : World) (k : KC) : Exit → Act → World → Prop := fun ex a' w' =>
  ∃ e ρ' F' D' h', ExR e ex ∧ FR P ρ' N F' a' ∧ DR P ρ' D' a'.defers ∧ Stp P base ρ h w ρ' h' w' ∧ k e F' D' h' = .ok r
/-- What a call does: it is the model's own, or it enters a body. -/
def Does (P : Program) (f : FuncId) (args : Array Value) (w : World) (R : Ending → World → Prop) : Prop :=
  (∃ v w', (callFunc f args).run P w = .ok (.value v) w' ∧ R (.returned v) w') ∨ (callFunc f args).run P w = .ok (.enter f args) w ∧ Calls P f args w R
/-- What the evaluator's calls are good for. -/
structure ClOk (P : Program) (base : Nat) (cl : Cl) : Prop where
  call : ∀ {r : DV} (f : FuncId) (args : List AV) (args' : Array Value) (h : Hp) (k : K) (ρ : Rn) (w : World), RL P ρ args args'.toList → Sim P base ρ h w → cl.call f args h k = .ok r →
    Does P f args' w fun e w' => ∃ v' ρ' v h', e = .returned v' ∧ Stp P base ρ h w ρ' h' w' ∧ RV P ρ' v v' ∧ k v h' = .ok r
  code : ∀ {r : DV} (N : Nat) (md : Md) (c : Code) (F : Fr) (D : List Dfr) (h : Hp) (k : KC) (ρ : Rn) (w : World) (a : Act), okC P N c = true → (∀ b, md = .scope b ∨ md = .loop b → okC P N b = true) →
    FR P ρ N F a → DR P ρ D a.defers → Sim P base ρ h w → cl.code md c F D h k = .ok r → md.wp P c (QC r P base N ρ h w k) a w
/-- Each operation of a program is sound. -/
def Ops (P : Program) (base : Nat) (cl : Cl) : Prop := ∀ (N : Nat) (ops : Array Oper) (o : Oper), okOp P N ops o = true → ∃ x : X, (∀ (α : Type) (k : X → α), trX P o.op k = k x) ∧ XS P base N cl x o
section
variable {P : Program} {base N : Nat} {cl : Cl}
theorem QC.mono {ρ ρ1 : Rn} {h h1 : Hp} {w w1 : World} {k : KC} (st : Stp P base ρ h w ρ1 h1 w1) {e : Exit} {a : Act} {w' : World} (q : QC r P base N ρ1 h1 w1 k e a w') : QC r P base N ρ h w k e a w' := by
  obtain ⟨x, ρ', F', D', h', q1, q2, q3, q4, q5⟩ := q
  exact ⟨x, ρ', F', D', h', q1, q2, q3, st.trans q4, q5⟩
/-- How a run of operations may end. -/
def QR (r : DV) (P : Program) (base N : Nat) (ρ : Rn) (h : Hp) (w : World) (k : KR) : Act → World → Prop := fun a' w' =>
  ∃ ρ' F' D' h', FR P ρ' N F' a' ∧ DR P ρ' D' a'.defers ∧ Stp P base ρ h w ρ' h' w' ∧ k F' D' h' = .ok r
theorem put_defers (a : Act) (d : Option Tmp) (v : Value) : (a.put d v).defers = a.defers := by cases d <;> rfl
theorem FR.put_none {ρ : Rn} {F : Fr} {a : Act} (f : FR P ρ N F a) (v : Value) : FR P ρ N F (a.put none v) := f
theorem undef_ok (ρ : Rn) : RV P ρ (.t []) undef := by simp only [RV, RL]; exact ⟨#[], rfl, rfl⟩
/-- What an operation's item does, and goes on with. -/
noncomputable def oiStep (cl : Cl) (o : OI) (k : KR) (F : Fr) (D : List Dfr) (h : Hp) : Res :=
  OI.rec (motive := fun _ => Res)
    (fun x s => x cl F h fun v h => k (s v F) D h)
    (fun x => x cl F h fun _ h => k F D h)
    (fun g w x s => wanted (g F) w (x cl F h fun v h => k (s v F) D h) (k (s (.t []) F) D h))
    (fun x g => x cl F h fun v _ => cif (same v (g F)) (k F D h) (bad 82))
    (fun c w x g => wanted (c F) w (x cl F h fun v _ => cif (same v (g F)) (k F D h) (bad 82)) (k F D h))
    (fun f args s => isF (f F) (k (s (.t []) F) (⟨f F, mapO args F⟩ :: D) h))
    (fun n => bad n) o
theorem evOps_nil (k : KR) : evOps cl k [] = k := rfl
theorem evOps_cons (k : KR) (o : OI) (l : List OI) : evOps cl k (o :: l) = oiStep cl o (evOps cl k l) := rfl
theorem wanted_ok {v : AV} {b : Bool} {y n : Res} (h : wanted v b y n = .ok r) : (∃ c, v = .b c ∧ ((c == b) = true ∧ y = .ok r ∨ (c == b) = false ∧ n = .ok r)) ∨ (∃ l, v = .t l) ∧ n = .ok r := by
  cases v <;> first
    | exact bad_ok h
    | exact .inr ⟨⟨_, rfl⟩, h⟩
    | (rename_i c
       refine .inl ⟨c, rfl, ?_⟩
       have h' : cif (cif c b (nt b)) y n = .ok _ := h
       rw [cif_eq, cif_eq, nt_eq] at h'
       cases c <;> cases b <;> simp at h' ⊢ <;> exact h')
theorem opsO_ok {ρ : Rn} {F : Fr} {a : Act} {h : Hp} {w : World} (fr : FR P ρ N F a) (s : Sim P base ρ h w) : ∀ (l : List Operand), (∀ p ∈ l, okO P p = true) → RL P ρ (mapO (l.map opA) F) (l.map a.eval)
  | [], _ => by simp [mapO, RL]
  | x :: r, hp => by
    show RL P ρ (opA x F :: mapO (r.map opA) F) (a.eval x :: r.map a.eval)
    simp only [RL]
    exact ⟨_, _, rfl, opA_ok fr s (hp x (by simp)), opsO_ok fr s r fun p hp' => hp p (by simp [hp'])⟩
/-- One operation of a region that runs in the text's order. -/
theorem op_ok (hX : Ops P base cl) {ops : Array Oper} {o : Oper} (hok : okOp P N ops o = true) {k : KR} {F : Fr} {D : List Dfr} {h : Hp} {ρ : Rn} {w : World} {a : Act} (fr : FR P ρ N F a) (dr : DR P ρ D a.defers) (s : Sim P base ρ h w)
    (hx : oiStep cl (trOp P ops o) k F D h = .ok r) {next : Act → World → Prop} {Q : Exit → Act → World → Prop} (hn : ∀ a' w', QR r P base N ρ h w k a' w' → (∃ v', a'.tmps = (a.put o.dst v').tmps) → next a' w') :
    if Region.wanted o (yielded ops a.tmps) then o.wp P a w next Q else next (a.put o.dst undef) w := by
  obtain ⟨x, hx1, hx2⟩ := hX N ops o hok
  simp only [okOp, Bool.and_eq_true] at hok
  obtain ⟨⟨ho1, ho2⟩, ho3⟩ := hok
  have dst : ∀ d, o.dst = some d → d < N ∧ d < 512 := fun d hd => by rw [hd] at ho2; simpa [Nat.blt_eq] using ho2
  have step : ∀ (s' : St), (∀ d, o.dst = some d → s' = putN d) → (o.dst ≠ none) → (x cl F h fun v h => k (s' v F) D h) = .ok r → o.wp P a w next Q := fun s' hs hd hk =>
    hx2 _ F h _ ρ w a next Q fr s hk fun ρ' v h' v' w' st rv hk' => hn _ _ (by
      cases hdd : o.dst with
      | none => exact absurd hdd hd
      | some d =>
        rw [hs d hdd] at hk'
        exact ⟨ρ', _, D, h', (fr.mono st.le).put (dst d hdd).1 (dst d hdd).2 rv, by rw [put_defers]; exact dr.mono st.le, st, hk'⟩) ⟨v', rfl⟩
  have hw0 : o.guard = none → Region.wanted o (yielded ops a.tmps) = true := fun hg => by simp [Region.wanted, hg]
  unfold trOp at hx
  cases hdf : dfOf o.op with
  | some fa =>
    obtain ⟨f, args⟩ := fa
    simp only [hdf] at hx
    cases hg : o.guard with
    | some g => simp only [hg] at hx; exact bad_ok hx
    | none =>
      rw [if_pos (hw0 hg)]
      simp only [hg, opF_eq, opsF_eq] at hx
      have hop : ∃ t, o.op = .defer { callee := .value f, args := args, argTypes := t } := by
        unfold dfOf at hdf
        split at hdf
        · rename_i heq
          cases hdf
          exact ⟨_, heq⟩
        · cases hdf
      obtain ⟨tt, hop⟩ := hop
      have hops : ∀ p ∈ f :: args.toList, okO P p = true := by
        rw [hop] at ho1
        intro p hp
        refine List.all_eq_true.1 ho1 p ?_
        simp only [Op.operands, Call.operands, Array.toList_append]
        simpa using hp
      have rf := opA_ok fr s (hops f (by simp))
      have ra := opsO_ok fr s args.toList fun p hp => hops p (by simp [hp])
      have fin : ∀ (F' : Fr) (s' : St), (∀ d, o.dst = some d → s' = putN d) → (o.dst = none → s' = fun _ F => F) → isF (opA f F) (k (s' (.t []) F) (⟨opA f F, mapO (args.toList.map opA) F⟩ :: D) h) = .ok r → o.wp P a w next Q := by
        intro F' s' hs1 hs2 hk
        have hf : ∃ fn f1 c1, opA f F = .f fn f1 c1 ∧ k (s' (.t []) F) (⟨opA f F, mapO (args.toList.map opA) F⟩ :: D) h = .ok r := by
          generalize hv : opA f F = v at hk ⊢
          cases v <;> first | exact ⟨_, _, _, rfl, hk⟩ | exact bad_ok hk
        obtain ⟨fn, f1, c1, hv, hk⟩ := hf
        rw [hv] at rf; simp only [RV] at rf
        obtain ⟨f1', c1', hfv, hf1, hc1⟩ := rf
        have hrun : (execOp a.eval o).run P w = .ok (.defer ⟨.fn fn c1', f1' ++ args.map a.eval⟩) w := by
          simp [execOp, hop, resolve, hfv, Deferred.ofValue]
        show o.upon P a next Q ((execOp a.eval o).run P w)
        rw [hrun]
        refine hn _ _ ?_ ⟨undef, by cases o.dst <;> rfl⟩
        have hdr : DR P ρ (⟨opA f F, mapO (args.toList.map opA) F⟩ :: D) (⟨.fn fn c1', f1' ++ args.map a.eval⟩ :: a.defers) :=
          ⟨_, _, fn, c1', rfl, rfl, ⟨f1, c1, _, hv, hc1, rfl, by rw [Array.toList_append, Array.toList_map]; exact hf1.append ra⟩, dr⟩
        cases hdd : o.dst with
        | none =>
          rw [hs2 hdd] at hk
          exact ⟨ρ, F, _, h, ⟨fr.sz, fun n hn => fr.v n hn⟩, hdr, .refl s, hk⟩
        | some d =>
          rw [hs1 d hdd] at hk
          exact ⟨ρ, _, _, h, FR.put (a := { tmps := a.tmps, defers := ⟨.fn fn c1', f1' ++ args.map a.eval⟩ :: a.defers }) ⟨fr.sz, fun n hn => fr.v n hn⟩ (dst d hdd).1 (dst d hdd).2 (undef_ok ρ), by rw [put_defers]; exact hdr, .refl s, hk⟩
      cases hdd : o.dst with
      | none => simp only [hdd] at hx; exact fin F (fun _ F => F) (fun d hd => by rw [hdd] at hd; cases hd) (fun _ => rfl) hx
      | some d => simp only [hdd, slM_eq] at hx; exact fin F (putN d) (fun d' hd => by rw [hdd] at hd; cases hd; rfl) (fun hd => by rw [hdd] at hd; cases hd) hx
  | none =>
    simp only [hdf] at hx
    cases hg : o.guard with
    | none =>
      rw [if_pos (hw0 hg)]
      cases hdd : o.dst with
      | none =>
        simp only [hg, hdd, hx1] at hx
        refine hx2 _ F h _ ρ w a next Q fr s hx fun ρ' v h' v' w' st rv hk' => hn _ _ ?_ ⟨v', by rw [hdd]⟩
        rw [hdd]
        exact ⟨ρ', F, D, h', fr.mono st.le, dr.mono st.le, st, hk'⟩
      | some d =>
        simp only [hg, hdd, hx1, slM_eq] at hx
        exact step (putN d) (fun d' hd' => by rw [hdd] at hd'; cases hd'; rfl) (by rw [hdd]; simp) hx
    | some jw =>
      obtain ⟨j, w'⟩ := jw
      cases hdd : o.dst with
      | none => simp only [hg, hdd] at hx; exact bad_ok hx
      | some d =>
        cases hgd : (ops[j]?).bind (·.dst) with
        | none => simp only [hg, hdd, hgd] at hx; exact bad_ok hx
        | some g =>
          simp only [hg, hdd, hgd, hx1, slM_eq, slG_eq, boolF_eq] at hx
          have hgN : g < 512 := by rw [hg] at ho3; simp only [hgd] at ho3; simpa [Nat.blt_eq] using ho3
          have rg := fr.v g hgN
          have hy : yielded ops a.tmps j = match a.tmps[g]? with
              | some (.bool b) => some b
              | _ => none := by simp only [yielded, hgd, Option.bind_some]; rfl
          have hev : a.eval (.tmp g) = (a.tmps[g]?).getD undef := by simp [Act.eval, Array.getD]; split <;> simp_all
          rcases wanted_ok hx with ⟨c, hc, hcase⟩ | ⟨⟨l, hc⟩, hk⟩
          · rw [hc] at rg; simp only [RV] at rg
            have hyc : yielded ops a.tmps j = some c := by
              rw [hy]
              rw [hev] at rg
              cases ht : a.tmps[g]? with
              | none => rw [ht] at rg; cases rg
              | some v => rw [ht] at rg; simp at rg; subst rg; rfl
            have hwn : Region.wanted o (yielded ops a.tmps) = (c == w') := by simp [Region.wanted, hg, hyc]
            rw [hwn]
            rcases hcase with ⟨h1, h2⟩ | ⟨h1, h2⟩
            · rw [if_pos h1]
              exact step (putN d) (fun d' hd' => by rw [hdd] at hd'; cases hd'; rfl) (by rw [hdd]; simp) h2
            · rw [if_neg (by rw [h1]; simp)]
              exact hn _ _ ⟨ρ, _, D, h, fr.put (dst d hdd).1 (dst d hdd).2 (undef_ok ρ), by rw [put_defers]; exact dr, .refl s, h2⟩ ⟨undef, by rw [hdd]⟩
          · rw [hc] at rg; simp only [RV] at rg
            obtain ⟨cs, hcs, _⟩ := rg
            have hyc : yielded ops a.tmps j = none := by
              rw [hy]
              rw [hev] at hcs
              cases ht : a.tmps[g]? with
              | none => rfl
              | some v => rw [ht] at hcs; simp at hcs; subst hcs; rfl
            have hwn : Region.wanted o (yielded ops a.tmps) = false := by simp [Region.wanted, hg, hyc]
            rw [if_neg (by rw [hwn]; simp)]
            exact hn _ _ ⟨ρ, _, D, h, fr.put (dst d hdd).1 (dst d hdd).2 (undef_ok ρ), by rw [put_defers]; exact dr, .refl s, hk⟩ ⟨undef, by rw [hdd]⟩
end
end Go.Ev

/- Part of the proof of CompileForCardSaid. -/
import Derived.Test.YthhgndcpeeifeaaGreatDoorE24
import Derived.Test.YthhgndcpeeifeaaGreatDoorE15
set_option linter.unusedVariables false
set_option linter.unusedSimpArgs false
set_option linter.unusedSectionVars false
set_option linter.constructorNameAsVariable false
namespace Go.Ev
open Go Go.RowKit Go.Proofs Go.Proofs.Lx6
variable {r : DV}
section
variable {P : Program} {base : Nat} {ρ : Rn} {h : Hp} {w w' : World}
/-- A block that a call has made is spoken of. -/
theorem Stp.newAt (s : Sim P base ρ h w) (hn : h.nx < 32768) {g : Nat} (bl : Below w.heap.size w w') (hg : w.heap.size ≤ g) (hg' : g < w'.heap.size) {o : AObj} {csz ext : Nat} {ty : TypeId}
    (ho : ∀ ρ', ρ' = ρ.add (idOf h.nx) g csz ext ty → ρ.le ρ' → Holds P base ρ' (idOf h.nx) g w' o) :
    Stp P base ρ h w (ρ.add (idOf h.nx) g csz ext ty) ⟨hput (idOf h.nx) o h.t, Nat.succ h.nx⟩ w' := by
  have hb : ρ.blk (idOf h.nx) = none := s.nx _ (Nat.le_refl _) hn
  have hle := Rn.le_add (ρ := ρ) hb g csz ext ty
  have hnew : (ρ.add (idOf h.nx) g csz ext ty).blk (idOf h.nx) = some g := by simp [Rn.add]
  have hother : ∀ c, c ≠ idOf h.nx → (ρ.add (idOf h.nx) g csz ext ty).blk c = ρ.blk c := fun c hc => by simp [Rn.add, hc]
  have hat' : ∀ c, c ≠ idOf h.nx → hat c (hput (idOf h.nx) o h.t) = hat c h.t := fun c hc => hat_hput_ne _ _ (Ne.symm hc)
  have hsz := bl.size
  refine ⟨hle, ⟨Nat.le_trans s.bs hsz, ?_, ?_, ?_, ?_, ?_, by rw [hle.sy]; exact s.kn, fun i hi => (bl.block i (Nat.lt_of_lt_of_le hi s.bs)).trans (s.tb i hi), fun g hg => ⟨(hle.h _ _ (s.gl g hg)).2.1.trans (s.ct g hg).1, (hle.of _ _ (s.gl g hg)).trans (s.ct g hg).2⟩, oz_add s.oz (fun c e oc => by unfold Own at oc ⊢; rw [← hat' c e]; exact oc)⟩,
    ⟨bl.os, bl.tape, bl.output, hsz, fun k hk => bl.block k (Nat.lt_of_lt_of_le hk s.bs)⟩, Nat.le_succ _, fun k hk _ => bl.block k hk, ?_, ?_, ?_, ?_⟩
  · intro c a hc
    by_cases e : c = idOf h.nx
    · subst e; rw [hnew] at hc; cases hc; exact hg'
    · rw [hother c e] at hc; exact Nat.lt_of_lt_of_le (s.lt c a hc) hsz
  · intro c a hc
    by_cases e : c = idOf h.nx
    · subst e; rw [hnew] at hc; cases hc
      show Holds P base _ _ _ _ (hat _ (hput _ _ _))
      rw [hat_hput_self]; exact ho _ rfl hle
    · rw [hother c e] at hc
      show Holds P base _ _ _ _ (hat _ (hput _ _ _))
      rw [hat' c e]
      exact ((s.ob c a hc).mono hle hc).world (bl.block a (s.lt c a hc))
  · intro c d a hc hd lc ld
    by_cases e : c = idOf h.nx
    · by_cases e2 : d = idOf h.nx
      · rw [e, e2]
      · subst e; rw [hnew] at hc; cases hc
        rw [hother d e2] at hd
        exact absurd (s.lt d _ hd) (by omega)
    · rw [hother c e] at hc
      by_cases e2 : d = idOf h.nx
      · subst e2; rw [hnew] at hd; cases hd
        exact absurd (s.lt c _ hc) (by omega)
      · rw [hother d e2] at hd
        exact s.inj c d a hc hd (by unfold Own at lc ⊢; rw [← hat' c e]; exact lc) (by unfold Live at ld ⊢; rw [← hat' d e2]; exact ld)
  · intro n h1 h2
    have : idOf n ≠ idOf h.nx := fun e => by have := idOf_inj h2 hn e; have h1' : h.nx + 1 ≤ n := h1; omega
    rw [hother _ this]
    exact s.nx n (Nat.le_of_succ_le h1) h2
  · intro g hg
    exact (hle.h _ _ (s.gl g hg)).1
  · intro n _ _ h1 h2
    have : idOf n ≠ idOf h.nx := fun e => by rw [e, hnew] at h2; cases h2
    exact hat' _ this
  · intro n h1 h2 h3
    have : idOf n ≠ idOf h.nx := fun e => by have := idOf_inj h2 hn e; omega
    rw [hother _ this]; exact h3
  · intro c a hc lc
    by_cases e : c = idOf h.nx
    · subst e; rw [hnew] at hc; cases hc; exact .inl hg
    · rw [hother c e] at hc
      exact .inr ⟨c, hc, by unfold Own at lc ⊢; rw [← hat' c e]; exact lc⟩
  · intro c a hc lc
    by_cases e : c = idOf h.nx
    · subst e; rw [hnew] at hc; cases hc; exact .inl hg
    · rw [hother c e] at hc
      exact .inr ⟨c, hc, by unfold Live at lc ⊢; rw [← hat' c e]; exact lc⟩
/-- A row of a call's own, told by ownsRow: an object, a slice. -/
theorem Sim.owns (s : Sim P base ρ h w) (hn : h.nx < 32768) (bl : Below w.heap.size w w') {e size n : Nat} {v : Value} {xs : List Value} {l : List AV} (ho : w'.ownsRow w.heap.size e size v n xs) (hsz : P.cellsOf e = size) (hpos : 0 < n) (rl : RL P ρ l xs) (h4 : l.length ≤ 4096) :
    ∃ ρ', Stp P base ρ h w ρ' ⟨hput (idOf h.nx) (.c true e l.length (CT.lay l 0 CT.z)) h.t, Nat.succ h.nx⟩ w' ∧ RV P ρ' (.sl (idOf h.nx) 0 n) v := by
  obtain ⟨hl, h0 | ⟨g, cap, cur, rfl, hg, hw, hcap, hmax, hcs, htk⟩⟩ := ho
  · omega
  have hlen : l.length = n * size := by rw [rl.length, hl]
  have hle : n * size ≤ cap * size := Nat.mul_le_mul_right _ hcap
  refine ⟨_, Stp.newAt s hn bl hg (Array.getElem?_eq_some_iff.1 hw).1 (csz := cur.size) (ext := l.length) (ty := e) fun ρ' hρ hle' => ?_, ?_⟩
  · subst hρ
    obtain ⟨r1, r2⟩ := lay_new l h4
    refine ⟨by simp [Rn.add], by simp [Rn.add], r1, cur, 0, 0, ⟨_, hw, fun _ => rfl⟩, by simp [Rn.add], by simp [Rn.add]; omega, fun j hj => ?_, fun _ => ⟨Nat.le_trans s.bs hg, fun j _ => by omega⟩⟩
    obtain ⟨v, g1, g2⟩ := rl.get j hj
    rw [← htk, List.getElem?_take, if_pos (by omega)] at g1
    refine ⟨v, by simpa [Rn.add] using g1, RV.mono hle' _ _ ?_⟩
    rw [r2 j hj]; exact g2
  · simp only [RV]
    refine ⟨g, ⟨g, 0, none⟩, cap, by simp [Rn.add], rfl, hcap, .inl ⟨by simp [Rn.add], ?_, ?_⟩⟩
    · simp [Rn.add, hsz]; omega
    · simp [Rn.add, hsz]; omega
/-! tables of small numbers -/
noncomputable def tabEqK (kd : IntKind) (zs : List Nat) : List AV → Bool :=
  List.rec (motive := fun _ => List AV → Bool) (fun l => List.rec (motive := fun _ => Bool) true (fun _ _ _ => false) l) (fun z _ ih l => List.rec (motive := fun _ => Bool) false (fun a r _ => an (same a (.i kd (.ofNat z))) (ih r)) l) zs
theorem tabEqK_ok {kd : IntKind} : ∀ {zs : List Nat} {l : List AV}, tabEqK kd zs l = true → l = zs.map fun z => .i kd (.ofNat z)
  | [], [], _ => rfl
  | [], _ :: _, h => absurd (show (false : Bool) = true from h) Bool.false_ne_true
  | _ :: _, [], h => absurd (show (false : Bool) = true from h) Bool.false_ne_true
  | z :: zs, a :: l, h => by
    have h' : an (same a (.i kd (.ofNat z))) (tabEqK kd zs l) = true := h
    simp only [an_eq, Bool.and_eq_true] at h'
    rw [same_eq _ _ h'.1, tabEqK_ok h'.2]; rfl
theorem tab_isK (s : Sim P base ρ h w) {kd : IntKind} {g : Nat} {name : String} (hg : g < P.globals.size) (hnm : P.globalNamed name = some g) {zs : List Nat} (hsz : P.cellsOf P.globals[g].type = zs.length) {own : Bool} {e : TypeId} {n : Nat} {t : CT}
    (hat' : hat (idOf g) h.t = .c own e n t) (ht : tabEqK kd zs (t.cells n 0) = true) : Lib.TabIs P w name kd (zs.map fun z => ((z : Nat) : Int)) := by
  obtain ⟨k1, k2, k3, cs, lo, hi, ⟨_, k4, _⟩, k5, k6, k7, k8⟩ := s.cellsR (s.gl g hg) hat'
  obtain ⟨ct1, ct2⟩ := s.ct g hg
  simp only [ct2, Nat.zero_add] at k5 k6 k7
  have hl := tabEqK_ok ht
  have hn : n = zs.length := by
    have := congrArg List.length hl
    rw [cells_eq] at this
    simpa using this
  rw [ct1, hsz] at k5
  have hcs : cs = (zs.map fun z => Value.int kd ((z : Nat) : Int)).toArray := by
    apply Array.ext
    · simp [k5]
    · intro j h1 h2
      obtain ⟨v, g1, g2⟩ := k7 j (by omega)
      have hj : j < zs.length := by omega
      have ha : t.get j = .i kd (.ofNat zs[j]) := by
        have h3 : (t.cells n 0)[j]? = some (t.get j) := by rw [cells_eq]; simp [show j < n by omega]
        rw [hl] at h3
        simp [hj] at h3
        exact h3.symm
      rw [ha] at g2
      simp only [RV] at g2
      rw [Array.getElem?_eq_getElem h1] at g1
      cases g1
      rw [g2]
      simp
  unfold Lib.TabIs World.var?
  rw [hnm]
  simp only [Option.bind_some, k4, hcs, List.map_map]
  rfl
/-- A cell that holds a number. -/
noncomputable def cellI (b : Id) (h : Hp) (z : Res) : Res :=
  cellsAt b h fun _ _ n t => cif (Nat.ble 1 n) (intE (t.get 0) (fun kd _ => cif (Nat.beq (kn kd) 3) z (bad 137)) (yE (t.get 0) (fun y => cif (yOdd y) (bad 137) z) (bad 137))) (bad 137)
theorem cellI_ok (s : Sim P base ρ h w) {g : Nat} (hg : g < P.globals.size) {z : Res} (hx : cellI (idOf g) h z = .ok r) : (∃ m, w.cell? ⟨g, 0, none⟩ = some (.int .i64 m)) ∧ z = .ok r := by
  unfold cellI at hx
  obtain ⟨own, e, n, t, hat', hx⟩ := cellsAt_ok hx
  rw [cif_eq] at hx
  obtain ⟨h1, hx⟩ := ite_bad hx
  rw [Nat.ble_eq] at h1
  obtain ⟨v, c1, c2⟩ := s.cell (s.gl g hg) hat' (j := 0) (by omega)
  rw [(s.ct g hg).2] at c1
  rcases intE_ok hx with ⟨kd, m, hv, hx'⟩ | ⟨_, hx⟩
  · rw [hv] at c2
    rw [cif_eq] at hx'
    obtain ⟨h2, hx'⟩ := ite_bad hx'
    simp only [RV] at c2
    subst c2
    have : kd = .i64 := by cases kd <;> first | rfl | (exfalso; revert h2; decide)
    subst this
    exact ⟨⟨m, c1⟩, hx'⟩
  · rcases yE_ok hx with ⟨y, hv, hx⟩ | hx
    · rw [hv] at c2
      rw [cif_eq] at hx
      rcases ite_ok hx with ⟨_, hx⟩ | ⟨h2, hx⟩
      · exact bad_ok hx
      · obtain ⟨m, rfl⟩ := RV_even s c2 (by
          have q : ¬ Nat.mod y 2 = 1 := by simpa [yOdd] using h2
          have q2 : Nat.mod y 2 = y % 2 := rfl
          omega)
        exact ⟨⟨m, c1⟩, hx⟩
    · exact bad_ok hx
end
/-! lex.Tokens -/
/-- The table of blanks. -/
def spaceN : List Nat := Lib.asciiSpaceTab.map Int.toNat
noncomputable def tabSp (b : Id) (h : Hp) (z : Res) : Res := cellsAt b h fun _ _ n t => cif (tabEqK .u8 spaceN (t.cells n 0)) z (bad 138)
noncomputable def rTokens (_ : Cl) (a : List AV) (h : Hp) (k : K) : Res :=
  x1 a fun s => asR s fun n c => cellI (idOf 4) h (tabSp (idOf 0) h (cif (Nat.ble n 6000) (lexR (Nat.succ n) n c 0 0 0 1 fun l q => natF q fun q => cif (Nat.ble q 8000) (newC 164 l h fun b h => k (.t [.sl b 0 q, .i .i64 (.ofNat 0), .i .i64 (.ofNat 0)]) h) (bad 139)) (bad 139)))
theorem space_eq : (spaceN.map fun z => ((z : Nat) : Int)) = Lib.asciiSpaceTab := by decide +kernel
theorem rTokens_ok {base : Nat} : RuleOk Tryz.prog base 25 rTokens := by
  intro cl _ r args args' h k ρ w rl s hx
  obtain ⟨x, rfl, hx⟩ := x1_ok (show x1 args _ = .ok r from hx)
  obtain ⟨v1, hv1, rv1⟩ := rl1 rl
  obtain ⟨A, B, M, hA, hB, e⟩ := s.kn
  obtain ⟨n, c, str, rfl, hstr, hx⟩ := asR_ok s e rv1 hx
  obtain ⟨⟨m, hm⟩, hx⟩ := cellI_ok s (g := 4) (of_decide_eq_true (by kernel_rfl)) hx
  unfold tabSp at hx
  obtain ⟨own, et, nt', t, hat', hx⟩ := cellsAt_ok hx
  rw [cif_eq] at hx
  obtain ⟨htab, hx⟩ := ite_bad hx
  rw [cif_eq] at hx
  obtain ⟨hn, hx⟩ := ite_bad hx
  rw [Nat.ble_eq] at hn
  have htb := tab_isK s (g := 0) (name := "strings.asciiSpace") (of_decide_eq_true (by kernel_rfl)) (by kernel_rfl) (zs := spaceN) (by kernel_rfl) hat' htab
  rw [space_eq] at htb
  obtain ⟨cells, pts, lnE, F, h1, h2, h3⟩ := lexR_ok s e hA hB _ n c 0 0 0 1 [] str.data.toList _ (by rw [hstr]; rfl) (by simp) hx
  simp only [natF_eq, cif_eq] at h1
  obtain ⟨hq, h1⟩ := ite_bad h1
  rw [Nat.ble_eq] at hq
  obtain ⟨hc4, hnx, h1⟩ := newC_ok h1
  have hsz : str.size ≤ 60000 := by
    have := rope_le hA hB n c
    rw [← hstr] at this
    have e1 : str.data.toList.length = str.size := rfl
    omega
  subst hv1
  refine .inr ⟨?_, (tokens_list str m w (by omega) hm htb h2 (by omega)).mono ?_⟩
  · exact enters_of (fn := Tryz.f25) Tryz.func25 (by kernel_rfl) rfl _ _
  rintro e' w' ⟨v, rfl, ho, hb⟩
  obtain ⟨ρ', st, rv⟩ := s.owns hnx hb (size := 5) ho (by kernel_rfl) (by omega) h3 hc4
  refine ⟨_, ρ', _, _, rfl, st, ?_, h1⟩
  simp only [RV, RL]
  exact ⟨_, rfl, _, _, rfl, rv, _, _, rfl, rfl, _, _, rfl, rfl, rfl⟩
end Go.Ev

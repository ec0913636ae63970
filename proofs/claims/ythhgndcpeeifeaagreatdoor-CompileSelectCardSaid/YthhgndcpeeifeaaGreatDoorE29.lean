/- Part of the proof of CompileForCardSaid. -/
import Derived.Test.YthhgndcpeeifeaaGreatDoorE25
import Derived.Test.YthhgndcpeeifeaaGreatDoorE28
set_option linter.unusedVariables false
set_option linter.unusedSimpArgs false
set_option linter.unusedSectionVars false
set_option linter.constructorNameAsVariable false
namespace Go.Ev
open Go Go.RowKit Go.Proofs Go.Proofs.Lx6
variable {r : DV}
noncomputable def notNl (b : Nat) : Bool := nt (Nat.beq b 10)
noncomputable def linesS (ih : Nat → Nat → (List AV → Nat → Res) → Res) (n c : Nat) (k : List AV → Nat → Res) : Res :=
  natF n fun n => natF c fun c => cif (Nat.beq n 0) (k [.i .i64 (.ofNat 0), .i .i64 (.ofNat 0), .i .i64 (.ofNat 0), .s 0 0, .i .i64 (.ofNat 0)] 1)
    (natF (spanF notNl n c) fun m => natF (cif (Nat.ble n m) n (Nat.succ m)) fun m1 => cif (Nat.ble m1 200)
      (lexR (Nat.succ m1) m1 (Nat.mod c (Nat.pow 256 m1)) 0 0 0 1 fun l q => ih (Nat.sub n m1) (Nat.div c (Nat.pow 256 m1)) fun r z => k (appL (takeL l (Nat.mul 5 (Nat.pred q))) r) (Nat.add (Nat.pred q) z)) (bad 150))
noncomputable def linesR (fuel : Nat) : Nat → Nat → (List AV → Nat → Res) → Res :=
  Nat.rec (motive := fun _ => Nat → Nat → (List AV → Nat → Res) → Res) (fun _ _ _ => bad 127) (fun _ ih => linesS ih) fuel
theorem rope_split (A B : Nat) {n m : Nat} (c : Nat) (h : m ≤ n) : rope A B n c = rope A B m (c % 256 ^ m) ++ rope A B (n - m) (c / 256 ^ m) := by
  have h1 := rope_app A B m (n - m) c (c / 256 ^ m)
  have h2 := rope_mod A B m c 0
  rw [Nat.zero_mul, Nat.add_zero] at h2
  rw [h2, ← h1, show m + (n - m) = n by omega, Nat.mul_comm, Nat.mod_add_div]
/-- How far no line ends. -/
theorem span_nl (A B : Nat) : ∀ n c, spanF notNl n c ≤ n ∧ (∀ b ∈ rope A B (spanF notNl n c) c, b ≠ 10) ∧ (spanF notNl n c < n → c / 256 ^ spanF notNl n c % 256 = 10)
  | 0, c => ⟨Nat.le_refl _, by simp [rope, spanF], fun h => absurd h (Nat.lt_irrefl _)⟩
  | n + 1, c => by
    rw [spanF_succ]
    by_cases h : notNl (c % 256) = true
    · rw [if_pos h]
      obtain ⟨h1, h2, h3⟩ := span_nl A B n (c / 256)
      have hc : c % 256 ≠ 10 := by
        intro e
        rw [e] at h; revert h; decide
      refine ⟨by omega, fun b hb => ?_, fun hlt => ?_⟩
      · rw [rope] at hb
        rcases List.mem_append.1 hb with hb | hb
        · have dg : ∀ N, b ∈ dec N → b ≠ 10 := fun N hb e => by
            have := decN_dig 10 N b hb
            rw [e] at this; revert this; decide
          split at hb
          · exact dg _ hb
          · split at hb
            · exact dg _ hb
            · rw [List.mem_singleton] at hb
              intro e
              rw [e] at hb
              have : (10 : UInt8).toNat = (UInt8.ofNat (c % 256)).toNat := by rw [hb]
              have h256 : c % 256 < 256 := Nat.mod_lt _ (by omega)
              simp only [UInt8.toNat_ofNat'] at this
              have e10 : (10 : UInt8).toNat = 10 := rfl
              omega
        · exact h2 b hb
      · have := h3 (by omega)
        rw [Nat.pow_succ, Nat.mul_comm, ← Nat.div_div_eq_div_mul]
        exact this
    · rw [if_neg h]
      refine ⟨Nat.zero_le _, by simp [rope], fun _ => ?_⟩
      have : nt (Nat.beq (c % 256) 10) ≠ true := h
      rw [nt_eq] at this
      simpa using this
theorem index_app : ∀ (xs : List UInt8) (t : List UInt8), (∀ b ∈ xs, b ≠ 10) → Lib.indexByte (xs ++ 10 :: t) 10 = (xs.length : Int)
  | [], t, _ => rfl
  | x :: xs, t, h => by
    have hx : (x == 10) = false := beq_false_of_ne (h x (by simp))
    have ih := index_app xs t fun b hb => h b (by simp [hb])
    rw [List.cons_append, Lib.indexByte, hx, ih]
    have : ((xs.length : Int) == -1) = false := by rw [beq_eq_false_iff_ne]; omega
    simp [this]
theorem index_none : ∀ (xs : List UInt8), (∀ b ∈ xs, b ≠ 10) → Lib.indexByte xs 10 = -1
  | [], _ => rfl
  | x :: xs, h => by
    have hx : (x == 10) = false := beq_false_of_ne (h x (by simp))
    rw [Lib.indexByte, hx, index_none xs fun b hb => h b (by simp [hb])]
    simp
theorem bts (l : List UInt8) : (⟨l.toArray⟩ : ByteArray).data.toList = l := by simp
theorem bsz (l : List UInt8) : (⟨l.toArray⟩ : ByteArray).size = l.length := by simp [ByteArray.size]
theorem bext {a b : ByteArray} (h : a.data.toList = b.data.toList) : a = b := ByteArray.ext (Array.toList_inj.1 h)
theorem takeRL {P : Program} {ρ : Rn} {l : List AV} {vs us : List Value} {n : Nat} (h : RL P ρ l (vs ++ us)) (hn : n = vs.length) : RL P ρ (l.take n) vs := by
  subst hn
  have hl := h.length
  refine RL.of (by rw [List.length_take, hl, List.length_append]; omega) fun j hj => ?_
  rw [List.length_take] at hj
  obtain ⟨v, h1, h2⟩ := h.get j (by omega)
  refine ⟨v, ?_, ?_⟩
  · rw [List.getElem?_append_left (by omega)] at h1; exact h1
  · simpa [List.getD, List.getElem?_take, show j < vs.length by omega] using h2
section
variable {P : Program} {base : Nat} {ρ : Rn} {h : Hp} {w : World} {A B : Nat} {M : Int}
theorem linesR_ok (s : Sim P base ρ h w) (e : ρ.sy = den A B M) (hA : A < 2147483648) (hB : B < 2147483648) : ∀ (f n c : Nat) (k : List AV → Nat → Res), linesR f n c k = .ok r →
    ∃ (L : LT) (cells : List AV), IsL (L.map (·.1)) ⟨(rope A B n c).toArray⟩ ∧ (∀ p ∈ L, p.1.size ≤ 2000 ∧ 0 < p.1.size ∧ ∃ f ln, toksL p.1.data.toList f 0 1 = some (p.2, ln)) ∧
      RL P ρ cells (cellsL L ++ [.int .i64 0, .int .i64 0, .int .i64 0, .string ⟨#[]⟩, .int .i64 0]) ∧ k cells (cntL L + 1) = .ok r
  | 0, _, _, _, hx => bad_ok hx
  | f + 1, n, c, k, hx => by
    have hx1 : linesS (linesR f) n c k = .ok r := hx
    clear hx
    unfold linesS at hx1
    simp only [natF_eq, cif_eq, nMod, nDiv, nPow, nSub, nAdd, nMul] at hx1
    rcases ite_ok hx1 with ⟨h0, hx2⟩ | ⟨h0, hx2⟩
    · have h0 : n = 0 := by simpa using h0
      subst h0
      refine ⟨[], _, rfl, fun p hp => by simp at hp, ?_, hx2⟩
      show RL P ρ _ [_, _, _, _, _]
      simp only [RL]
      exact ⟨_, _, rfl, by simp only [RV]; rfl, _, _, rfl, by simp only [RV]; rfl, _, _, rfl, by simp only [RV]; rfl, _, _, rfl, by simp only [RV]; exact ⟨_, rfl, rfl, rfl⟩, _, _, rfl, by simp only [RV]; rfl, rfl⟩
    · have h0 : n ≠ 0 := fun q => h0 (by rw [q]; rfl)
      clear hx1
      obtain ⟨h1, hx3⟩ := ite_bad hx2
      clear hx2
      rw [Nat.ble_eq] at h1
      obtain ⟨s1, s2, s3⟩ := span_nl A B n c
      generalize hm : spanF notNl n c = m at *
      generalize hm1 : (if Nat.ble n m = true then n else Nat.succ m) = m1 at *
      have hm1n : m1 ≤ n ∧ 1 ≤ m1 := by
        rw [← hm1]
        split
        · omega
        · rename_i q
          rw [Nat.ble_eq] at q
          have : Nat.succ m = m + 1 := rfl
          omega
      obtain ⟨cells, pts, lnE, F, k1, k2, k3⟩ := lexR_ok s e hA hB _ m1 (c % 256 ^ m1) 0 0 0 1 [] (rope A B m1 (c % 256 ^ m1)) _ rfl (by simp) hx3
      obtain ⟨L, cells2, l1, l2, l3, l4⟩ := linesR_ok s e hA hB f _ _ _ k1
      have hsp := rope_split A B c hm1n.1
      have hlen : (rope A B m1 (c % 256 ^ m1)).length ≤ 2000 := by have := rope_le hA hB m1 (c % 256 ^ m1); omega
      have hpos : 0 < (rope A B m1 (c % 256 ^ m1)).length := List.length_pos_iff.2 (rope_pos A B _ _ (by omega))
      have hmod : ∀ j, rope A B j (c % 256 ^ j) = rope A B j c := fun j => by
        have := rope_mod A B j c 0
        rwa [Nat.zero_mul, Nat.add_zero] at this
      have hcnt : cntL ((⟨(rope A B m1 (c % 256 ^ m1)).toArray⟩, pts) :: L) + 1 = (pts.length + 1).pred + (cntL L + 1) := by
        simp [cntL]; omega
      refine ⟨(⟨(rope A B m1 (c % 256 ^ m1)).toArray⟩, pts) :: L, _, ?_, ?_, ?_, by rw [hcnt]; exact l4⟩
      · generalize hX : rope A B m1 (c % 256 ^ m1) = X at *
        generalize hT : rope A B (n - m1) (c / 256 ^ m1) = T at *
        have hd : (⟨(X ++ T).toArray⟩ : ByteArray).data.toList = X ++ T := bts _
        rw [hsp]
        refine ⟨by rw [bsz, List.length_append]; omega, ⟨T.toArray⟩, ?_, by rw [bsz, bsz, List.length_append]; omega, l1⟩
        rw [hd]
        by_cases hlt : m < n
        · left
          have hm1' : m1 = m + 1 := by rw [← hm1, if_neg (by rw [Nat.ble_eq]; omega)]
          have h10 := s3 hlt
          have hX2 : X = rope A B m c ++ [10] := by
            rw [← hX, hmod, rope_split A B c (show m ≤ m1 by omega), hmod, show m1 - m = 1 by omega, rope, if_neg (by omega), if_neg (by omega), h10]
            rfl
          have hXl : X.length = (rope A B m c).length + 1 := by rw [hX2]; simp
          have hi : Lib.indexByte (X ++ T) 10 = ((rope A B m c).length : Int) := by
            rw [hX2, List.append_assoc]; exact index_app _ T s2
          refine ⟨(rope A B m c).length, hi, by rw [bsz, List.length_append]; omega, bext ?_, bext ?_⟩
          · rw [ext_ba, bts, bts, hd, ← hXl, Lx6.sub, List.drop_zero, Nat.sub_zero, List.take_left]
          · rw [ext_ba, bts, bts, hd, bsz, ← hXl, Lx6.sub, List.drop_left, List.length_append, Nat.add_sub_cancel_left, List.take_length]
        · right
          have hmn : m1 = n := by rw [← hm1, if_pos (by rw [Nat.ble_eq]; omega)]
          have hmm : m = n := by omega
          have hT0 : T = [] := by rw [← hT, hmn, Nat.sub_self]; rfl
          have hXn : ∀ b ∈ X, b ≠ 10 := by rw [← hX, hmn, hmod, ← hmm]; exact s2
          refine ⟨?_, bext ?_, bext ?_⟩
          · rw [hT0, List.append_nil, index_none X hXn]; decide
          · rw [bts, hd, hT0, List.append_nil]
          · rw [bts, hT0]
      · intro p hp
        rcases List.mem_cons.1 hp with rfl | hp
        · refine ⟨by simp only [bsz]; omega, by simp only [bsz]; exact hpos, F, lnE, ?_⟩
          simp only [bts]; exact k2
        · exact l2 p hp
      · rw [appL_eq, takeL_eq]
        have e1 : cellsL ((⟨(rope A B m1 (c % 256 ^ m1)).toArray⟩, pts) :: L) = pts.flatMap (tokC (rope A B m1 (c % 256 ^ m1))) ++ cellsL L := by
          simp [cellsL]
        rw [e1, List.append_assoc]
        exact RL.append (takeRL k3 (by rw [flat5]; show 5 * (pts.length + 1).pred = _; simp; omega)) l3
end
/-- print.tokens. -/
noncomputable def rPTokens (_ : Cl) (a : List AV) (h : Hp) (k : K) : Res :=
  x1 a fun s => asR s fun n c => cellI (idOf 4) h (tabSp (idOf 0) h (cif (Nat.ble n 60000) (linesR (Nat.succ n) n c fun l q => natF q fun q => cif (Nat.ble q 8000) (newC 164 l h fun b h => k (.t [.sl b 0 q, .b true]) h) (bad 139)) (bad 139)))
theorem rPTokens_ok {base : Nat} : RuleOk Tryz.prog base 136 rPTokens := by
  intro cl _ r args args' h k ρ w rl s hx
  obtain ⟨x, rfl, hx⟩ := x1_ok (show x1 args _ = .ok r from hx)
  obtain ⟨v1, hv1, rv1⟩ := rl1 rl
  obtain ⟨A, B, M, hA, hB, e⟩ := s.kn
  obtain ⟨n, c, str, rfl, hstr, hx⟩ := asR_ok s e rv1 hx
  obtain ⟨⟨m, hm⟩, hx⟩ := cellI_ok s (g := 4) (of_decide_eq_true (by kernel_rfl)) hx
  unfold tabSp at hx
  obtain ⟨own, et, nt', t, hat', hx⟩ := cellsAt_ok hx
  rw [cif_eq] at hx
  obtain ⟨htab, hx⟩ := ite_bad hx
  rw [cif_eq] at hx
  obtain ⟨hn, hx⟩ := ite_bad hx
  rw [Nat.ble_eq] at hn
  have htb := tab_isK s (g := 0) (name := "strings.asciiSpace") (of_decide_eq_true (by kernel_rfl)) (by kernel_rfl) (zs := spaceN) (by kernel_rfl) hat' htab
  rw [space_eq] at htb
  obtain ⟨L, cells, h1, h2, h3, h4⟩ := linesR_ok s e hA hB _ n c _ hx
  simp only [natF_eq, cif_eq] at h4
  obtain ⟨hq, h4⟩ := ite_bad h4
  rw [Nat.ble_eq] at hq
  obtain ⟨hc4, hnx, h4⟩ := newC_ok h4
  have hstr2 : str = ⟨(rope A B n c).toArray⟩ := bext (by rw [hstr, bts])
  rw [← hstr2] at h1
  have hsz : str.size ≤ 600000 := by
    have := rope_le hA hB n c
    rw [← hstr] at this
    have e1 : str.data.toList.length = str.size := rfl
    omega
  subst hv1
  refine .inr ⟨?_, (ptokens_any L str m w hm htb (by omega) h1 h2 (by omega)).mono ?_⟩
  · exact enters_of (fn := Tryz.f136) Tryz.func136 (by kernel_rfl) rfl _ _
  rintro e' w' ⟨v, rfl, ho, hb⟩
  obtain ⟨ρ', st, rv⟩ := s.owns hnx hb (size := 5) ho (by kernel_rfl) (by omega) h3 hc4
  refine ⟨_, ρ', _, _, rfl, st, ?_, h4⟩
  simp only [RV, RL]
  exact ⟨_, rfl, _, _, rfl, rv, _, _, rfl, rfl, rfl⟩
end Go.Ev
namespace Go.Ev
open Go Go.RowKit Go.Proofs Go.Proofs.Lx6
variable {r : DV}
/-- The words of a text, between blanks (32). -/
noncomputable def fldR (n : Nat) : Nat → Nat → Nat → List AV :=
  Nat.rec (motive := fun _ => Nat → Nat → Nat → List AV) (fun _ acc len => cif (Nat.beq len 0) [] [.s len acc])
    (fun _ ih c acc len => natF (Nat.mod c 256) fun b => cif (Nat.beq b 32) (cif (Nat.beq len 0) (ih (Nat.div c 256) 0 0) (.s len acc :: ih (Nat.div c 256) 0 0))
      (natF (Nat.add acc (Nat.mul b (Nat.pow 256 len))) fun acc => natF (Nat.succ len) fun len => natF (Nat.div c 256) fun c => ih c acc len)) n
/-- No byte is a blank but 32; all are below 128. -/
noncomputable def plainR (n : Nat) : Nat → Bool :=
  Nat.rec (motive := fun _ => Nat → Bool) (fun _ => true) (fun _ ih c => natF (Nat.mod c 256) fun b => an (an (Nat.ble b 127) (nt (an (Nat.ble 9 b) (Nat.ble b 13)))) (natF (Nat.div c 256) fun c => ih c)) n
theorem fldR_ok : ∀ (l cur : List UInt8), plainR l.length (encB l) = true → fldR l.length (encB l) (encB cur) cur.length = (Lib.fieldsGo cur l).map fun x => AV.s x.length (encB x)
  | [], cur, _ => by
    show cif (Nat.beq cur.length 0) [] [AV.s cur.length (encB cur)] = _
    rw [cif_eq, Lib.fieldsGo]
    cases cur with
    | nil => rfl
    | cons a t => rfl
  | b :: l, cur, hp => by
    have hb := b.toNat_lt
    have e1 : encB (b :: l) % 256 = b.toNat := enc_head
    have e2 : encB (b :: l) / 256 = encB l := by rw [encB_cons]; omega
    have hp' : natF (Nat.mod (encB (b :: l)) 256) (fun x => an (an (Nat.ble x 127) (nt (an (Nat.ble 9 x) (Nat.ble x 13)))) (natF (Nat.div (encB (b :: l)) 256) fun c => plainR l.length c)) = true := hp
    simp only [natF_eq, nMod, nDiv, e1, e2, an_eq, nt_eq, Bool.and_eq_true] at hp'
    obtain ⟨⟨h1, h2⟩, h3⟩ := hp'
    have hsp : Lib.isSp b = (b == 32) := by
      have ne : ∀ c : UInt8, 9 ≤ c.toNat → c.toNat ≤ 13 → (b == c) = false := fun c g1 g2 => by
        rw [beq_eq_false_iff_ne]
        intro e
        rw [e] at h2
        have q1 : Nat.ble 9 c.toNat = true := by rw [Nat.ble_eq]; exact g1
        have q2 : Nat.ble c.toNat 13 = true := by rw [Nat.ble_eq]; exact g2
        rw [q1, q2] at h2
        simp at h2
      unfold Lib.isSp
      rw [ne 9 (by decide) (by decide), ne 10 (by decide) (by decide), ne 11 (by decide) (by decide), ne 12 (by decide) (by decide), ne 13 (by decide) (by decide)]
      rfl
    show natF (Nat.mod (encB (b :: l)) 256) (fun x => cif (Nat.beq x 32) (cif (Nat.beq cur.length 0) (fldR l.length (Nat.div (encB (b :: l)) 256) 0 0) (.s cur.length (encB cur) :: fldR l.length (Nat.div (encB (b :: l)) 256) 0 0))
      (natF (Nat.add (encB cur) (Nat.mul x (Nat.pow 256 cur.length))) fun acc => natF (Nat.succ cur.length) fun len => natF (Nat.div (encB (b :: l)) 256) fun c => fldR l.length c acc len)) = _
    simp only [natF_eq, cif_eq, nMod, nDiv, nAdd, nMul, nPow, e1, e2]
    rw [Lib.fieldsGo, hsp]
    by_cases h32 : b = 32
    · subst h32
      have ih := fldR_ok l [] h3
      have ih' : fldR l.length (encB l) 0 0 = _ := ih
      rw [if_pos (by decide), ih']
      cases cur with
      | nil => rfl
      | cons a t => rfl
    · have hne : (b == 32) = false := beq_false_of_ne h32
      have hnn : ¬ (Nat.beq b.toNat 32 = true) := fun q => h32 (UInt8.toNat_inj.1 (by have := Nat.eq_of_beq_eq_true q; rw [this]; rfl))
      have ih := fldR_ok l (cur ++ [b]) h3
      have e3 : encB (cur ++ [b]) = encB cur + b.toNat * 256 ^ cur.length := by rw [encB_append]; simp [encB]
      rw [e3, List.length_append, List.length_singleton] at ih
      rw [if_neg hnn, hne]
      exact ih
theorem plainR_lt : ∀ (l : List UInt8), plainR l.length (encB l) = true → ∀ (j : Nat) b, l[j]? = some b → b.toNat < 128
  | [], _, j, b, hj => by simp at hj
  | x :: l, hp, j, b, hj => by
    have hb := x.toNat_lt
    have e1 : encB (x :: l) % 256 = x.toNat := enc_head
    have e2 : encB (x :: l) / 256 = encB l := by rw [encB_cons]; omega
    have hp' : natF (Nat.mod (encB (x :: l)) 256) (fun y => an (an (Nat.ble y 127) (nt (an (Nat.ble 9 y) (Nat.ble y 13)))) (natF (Nat.div (encB (x :: l)) 256) fun c => plainR l.length c)) = true := hp
    simp only [natF_eq, nMod, nDiv, e1, e2, an_eq, nt_eq, Bool.and_eq_true] at hp'
    obtain ⟨⟨h1, _⟩, h3⟩ := hp'
    rw [Nat.ble_eq] at h1
    cases j with
    | zero => cases hj; omega
    | succ j => exact plainR_lt l h3 j b (by simpa using hj)
noncomputable def rFields (_ : Cl) (a : List AV) (h : Hp) (k : K) : Res :=
  x1 a fun v => strE v (fun n c => tabSp (idOf 0) h (cif (an (Nat.ble n 60000) (plainR n c)) (newC 9 (fldR n c 0 0) h fun b h => natF (lenL (fldR n c 0 0)) fun m => k (.sl b 0 m) h) (bad 151))) (bad 152)
theorem rFields_ok {base : Nat} : RuleOk Tryz.prog base 55 rFields := by
  intro cl _ r args args' h k ρ w rl s hx
  obtain ⟨x, rfl, hx0⟩ := x1_ok (show x1 args _ = .ok r from hx)
  clear hx
  obtain ⟨v1, hv1, rv1⟩ := rl1 rl
  obtain ⟨n, c, hxx, hx⟩ := (strE_ok hx0).resolve_right fun q => bad_ok q.2
  clear hx0
  subst hxx
  unfold tabSp at hx
  obtain ⟨own, et, nt', t, hat', hx⟩ := cellsAt_ok hx
  rw [cif_eq] at hx
  obtain ⟨htab, hx⟩ := ite_bad hx
  rw [cif_eq] at hx
  obtain ⟨hn, hx⟩ := ite_bad hx
  rw [an_eq, Bool.and_eq_true, Nat.ble_eq] at hn
  obtain ⟨hn, hpl⟩ := hn
  have htb := tab_isK s (g := 0) (name := "strings.asciiSpace") (of_decide_eq_true (by kernel_rfl)) (by kernel_rfl) (zs := spaceN) (by kernel_rfl) hat' htab
  rw [space_eq] at htb
  simp only [RV] at rv1
  obtain ⟨str, rfl, hl, hc⟩ := rv1
  obtain ⟨hc4, hnx, h1⟩ := newC_ok hx
  rw [natF_eq] at h1
  subst hl; subst hc; subst hv1
  have hf : fldR str.data.toList.length (encB str.data.toList) 0 0 = (Lib.fields str.data.toList).map fun x => AV.s x.length (encB x) := fldR_ok str.data.toList [] hpl
  refine .inr ⟨enters_of (fn := Tryz.f55) Tryz.func55 (by kernel_rfl) rfl _ _, (Tryz.strings_Fields str w (by show str.data.toList.length < _; omega) (plainR_lt _ hpl) htb).mono ?_⟩
  rintro e' w' ⟨rfl, rfl⟩
  have rlf : RL Tryz.prog ρ (fldR str.data.toList.length (encB str.data.toList) 0 0) (((Lib.fields str.data.toList).map fun l => Value.string ⟨l.toArray⟩).toArray).toList := by
    rw [hf]
    refine RL.of (by simp) fun j hj => ?_
    simp only [List.length_map] at hj
    refine ⟨.string ⟨((Lib.fields str.data.toList)[j]).toArray⟩, by simp [hj], ?_⟩
    have e0 : ((Lib.fields str.data.toList).map fun x => AV.s x.length (encB x)).getD j .u = AV.s ((Lib.fields str.data.toList)[j]).length (encB ((Lib.fields str.data.toList)[j])) := by simp [List.getD, hj]
    rw [e0]
    simp only [RV]
    exact ⟨_, rfl, by simp, by simp⟩
  obtain ⟨ρ', st, e1, e2, e3, e4⟩ := new_ok s hnx (e := 9) rlf hc4
  refine ⟨_, ρ', _, _, rfl, st, ?_, h1⟩
  have hlen : lenL (fldR str.data.toList.length (encB str.data.toList) 0 0) = (Lib.fields str.data.toList).length := by rw [lenL_eq, hf]; simp
  have hlen2 : (fldR str.data.toList.length (encB str.data.toList) 0 0).length = (Lib.fields str.data.toList).length := by rw [hf]; simp
  have c9 : Tryz.prog.cellsOf 9 = 1 := by kernel_rfl
  rw [hlen]
  simp only [RV]
  refine ⟨_, ⟨w.heap.size, 0, none⟩, _, e1, rfl, Nat.le_refl _, .inl ⟨by rw [st.off0 e1], ?_, ?_⟩⟩
  · rw [e4, e2, c9, hlen2]; omega
  · rw [e4, e3, c9, hlen2]; omega
end Go.Ev

/- Part of the proof of CompileForCardSaid. -/
import Derived.Test.YthhgndcpeeifeaaGreatDoorE18
import Derived.BigRegion
import Derived.RegionTactic
import Derived.ChangeAlike
import Derived.ScopeJumps
import Derived.WalkMore
set_option linter.unusedVariables false
set_option linter.unusedSimpArgs false
set_option linter.unusedSectionVars false
set_option linter.constructorNameAsVariable false
namespace Go.Proofs.Lx6
open Go.ChangeShapes Go.WideShapes Go.ChangeAt Go.RowKit
theorem wp_scope_once {P : Program} {a : Act} {w : World} {Q : Exit → Act → World → Prop} {c rest : Code} (l : Nat) (hf : findLabel c l = some rest)
    (first : c.wp P (Exit.jump l (fun a w => rest.wp P (Exit.noGoto Q) a w) Q) a w) : (Code.scope c).wp P Q a w :=
  wp_scope_jumps l (fun a w => rest.wp P (Exit.noGoto Q) a w) (fun _ _ => 0) hf first (fun a w h => wp_mono h (fun e a w hq => by
    cases e with
    | goto l' => exact hq.elim
    | _ => exact hq))
def isW (l : List UInt8) (j : Nat) : Bool := letF (bt l j) || digF (bt l j)
def isD (l : List UInt8) (j : Nat) : Bool := digF (bt l j)
def runEnd (p : Nat → Bool) (l : List UInt8) (a : Nat) : Nat := (srch (fun j => !p j) a (l.length - a)).getD l.length
def sub (l : List UInt8) (a n : Nat) : List UInt8 := (l.drop a).take n
def tokV (k at_ line : Int) (text : List UInt8) (n : Int) : Value := .agg #[.int .i64 k, .int .i64 at_, .int .i64 line, .string ⟨text.toArray⟩, .int .i64 n]
theorem ext_ba (s : ByteArray) (a b : Nat) : s.extract a b = ⟨(sub s.data.toList a (b - a)).toArray⟩ := by
  have h := Lib.extract_data s a b
  generalize s.extract a b = x at h ⊢
  obtain ⟨⟨d⟩⟩ := x
  have h' : d = sub s.data.toList a (b - a) := h
  rw [h']
theorem byte_le (s : ByteArray) (k : Nat) (hk : k < s.size) : (s[k].toNat : Int) ≤ 255 := by have := s[k].toNat_lt; omega
theorem runEnd_bd (p : Nat → Bool) (l : List UInt8) (a : Nat) (h : a ≤ l.length) : a ≤ runEnd p l a ∧ runEnd p l a ≤ l.length := by
  unfold runEnd
  cases hs : srch (fun j => !p j) a (l.length - a) with
  | none => exact ⟨h, Nat.le_refl _⟩
  | some j => have := srch_bd hs; exact ⟨this.1, by simp; omega⟩
/-- What a word's token is: its length, or too long. -/
def nameV (a e : Nat) (l : List UInt8) : Value := if 32 < e - a then .tuple #[tokV 0 0 0 [] 0, .int .i64 0, .int .i64 5] else .tuple #[tokV 1 0 0 (sub l a (e - a)) 0, .int .i64 e, .int .i64 0]
set_option maxHeartbeats 4000000 in
set_option maxRecDepth 20000 in
theorem token_name (s : ByteArray) (a : Nat) (K : Value) (w : World) (ha : a < s.size) (hs : s.size ≤ 65535) (hl : letF (s[a].toNat : Int) = true) :
    Calls Tryz.prog 57 #[.string s, .int .i64 a, K] w fun e w' => e = .returned (nameV a (runEnd (isW s.data.toList) s.data.toList a) s.data.toList) ∧ Below w.heap.size w w' := by
  have hby := byte_le s a ha
  have HL := Lib.hid hl; clear hl
  have hlen : Hid (s.data.toList.length = s.size) := rfl
  have hbd := runEnd_bd (isW s.data.toList) s.data.toList a (by rw [hlen.out]; omega)
  have HE : Hid (runEnd (isW s.data.toList) s.data.toList a = (srch (fun j => !isW s.data.toList j) a (s.size - a)).getD s.size) := rfl
  rw [hlen.out] at hbd
  obtain ⟨hbd1, hbd2⟩ := hbd
  generalize runEnd (isW s.data.toList) s.data.toList a = E at *
  go_enter Tryz.func57, Tryz.ntmps57
  go_wp2
  refine wp_scope_once 0 rfl ?_
  go_wp2_with fail
  refine (letter_any _ _ (by omega) hby).mono ?_
  rintro e w1 ⟨rfl, rfl⟩
  rw [HL.out]
  go_wp2_with fail
  go_step3
  refine ⟨rfl, ?_⟩
  go_wp2_with fail
  go_loop [7] (fun i => ∃ k : Nat, a ≤ k ∧ k ≤ s.size ∧ i = .int .i64 k ∧ E = (srch (fun j => !isW s.data.toList j) k (s.size - k)).getD s.size) (fun i => s.size - (intOf i).toNat)
  case atStart => exact ⟨a, by omega, by omega, rfl, HE.out⟩
  case round =>
    obtain ⟨k, hk1, hk2, rfl, hE⟩ := hrel
    have HE2 := Lib.hid hE; clear hE
    by_cases hlt : k < s.size
    · have hbk := byte_le s k hlt
      cases h1 : letF (s[k].toNat : Int)
      · cases h2 : digF (s[k].toNat : Int)
        · have HE3 : Hid (E = k) := HE2.out.trans (by rw [srch_hit hlt (by unfold isW; rw [bt_eq s k hlt, h1, h2]; rfl)]; rfl)
          have H1 := Lib.hid h1; clear h1
          have H2 := Lib.hid h2; clear h2
          go_wp2_with fail
          refine (letter_any _ _ (by omega) hbk).mono ?_
          rintro e w1 ⟨rfl, rfl⟩
          rw [H1.out]
          go_wp2_with fail
          refine (digit_any _ _ (by omega) hbk).mono ?_
          rintro e w1 ⟨rfl, rfl⟩
          rw [H2.out]
          by_cases hbig : 32 < (k : Int) - a
          · go_wp2_with fail
            try rw [Exit.noGoto_ret]
            refine bodyPost_ret (v := .tuple #[tokV 0 0 0 [] 0, .int .i64 0, .int .i64 5]) (by simp [results, Tryz.results57, go_sem, tokV]) rfl ⟨?_, by go_grown⟩
            rw [HE3.out, nameV, if_pos (by omega)]
          · go_wp2_with fail
            try rw [Exit.noGoto_ret]
            refine bodyPost_ret (v := .tuple #[.agg #[.int .i64 1, .int .i64 0, .int .i64 0, .string (s.extract a k), .int .i64 0], .int .i64 (k : Nat), .int .i64 0]) (by simp [results, Tryz.results57, go_sem]) rfl ⟨?_, by go_grown⟩
            rw [HE3.out, nameV, if_neg (by omega), tokV, ext_ba]
        · have HE3 : Hid (E = (srch (fun j => !isW s.data.toList j) (k + 1) (s.size - (k + 1))).getD s.size) := HE2.out.trans (by rw [srch_miss hlt (by unfold isW; rw [bt_eq s k hlt, h1, h2]; rfl)])
          have H1 := Lib.hid h1; clear h1
          have H2 := Lib.hid h2; clear h2
          go_wp2_with fail
          refine (letter_any _ _ (by omega) hbk).mono ?_
          rintro e w1 ⟨rfl, rfl⟩
          rw [H1.out]
          go_wp2_with fail
          refine (digit_any _ _ (by omega) hbk).mono ?_
          rintro e w1 ⟨rfl, rfl⟩
          rw [H2.out]
          go_wp2_with fail
          go_round
          case rel => exact ⟨k + 1, by omega, by omega, by go_num, HE3.out⟩
          case measure => simp [intOf]; omega
      · have HE3 : Hid (E = (srch (fun j => !isW s.data.toList j) (k + 1) (s.size - (k + 1))).getD s.size) := HE2.out.trans (by rw [srch_miss hlt (by unfold isW; rw [bt_eq s k hlt, h1]; rfl)])
        have H1 := Lib.hid h1; clear h1
        go_wp2_with fail
        refine (letter_any _ _ (by omega) hbk).mono ?_
        rintro e w1 ⟨rfl, rfl⟩
        rw [H1.out]
        go_wp2_with fail
        go_round
        case rel => exact ⟨k + 1, by omega, by omega, by go_num, HE3.out⟩
        case measure => simp [intOf]; omega
    · have HE3 : Hid (E = s.size) := HE2.out.trans (by rw [srch_end (by omega)]; rfl)
      have hks : k = s.size := by omega
      subst hks
      by_cases hbig : 32 < (s.size : Int) - a
      · go_wp2_with fail
        try rw [Exit.noGoto_ret]
        refine bodyPost_ret (v := .tuple #[tokV 0 0 0 [] 0, .int .i64 0, .int .i64 5]) (by simp [results, Tryz.results57, go_sem, tokV]) rfl ⟨?_, by go_grown⟩
        rw [HE3.out, nameV, if_pos (by omega)]
      · go_wp2_with fail
        try rw [Exit.noGoto_ret]
        refine bodyPost_ret (v := .tuple #[.agg #[.int .i64 1, .int .i64 0, .int .i64 0, .string (s.extract a s.size), .int .i64 0], .int .i64 (s.size : Nat), .int .i64 0]) (by simp [results, Tryz.results57, go_sem]) rfl ⟨?_, by go_grown⟩
        rw [HE3.out, nameV, if_neg (by omega), tokV, ext_ba]
end Go.Proofs.Lx6
namespace Go.Proofs.Lx6
open Go.ChangeShapes Go.WideShapes Go.ChangeAt Go.RowKit
/-- The number that digits from a place on make. -/
def dval (l : List UInt8) : Nat → Nat → Int
  | _, 0 => 0
  | a, n + 1 => dval l a n * 10 + (bt l (a + n) - 48)
theorem dval_mono (l : List UInt8) (a : Nat) : ∀ n m, n ≤ m → (∀ j, a ≤ j → j < a + m → isD l j = true) → 0 ≤ dval l a n ∧ dval l a n ≤ dval l a m := by
  have nonneg : ∀ n, (∀ j, a ≤ j → j < a + n → isD l j = true) → 0 ≤ dval l a n := by
    intro n
    induction n with
    | zero => intro _; exact Int.le_refl _
    | succ n ih =>
      intro h
      have h1 := ih (fun j a b => h j a (by omega))
      have h2 := h (a + n) (by omega) (by omega)
      unfold isD digF at h2
      have h3 := of_decide_eq_true h2
      unfold dval
      omega
  intro n m hnm
  obtain ⟨d, rfl⟩ : ∃ d, m = n + d := ⟨m - n, by omega⟩
  induction d with
  | zero => intro h; exact ⟨nonneg n h, Int.le_refl _⟩
  | succ d ih =>
    intro h
    have h1 := ih (by omega) (fun j a b => h j a (by omega))
    have h0 := nonneg (n + d) (fun j a b => h j a (by omega))
    have h2 := h (a + (n + d)) (by omega) (by omega)
    unfold isD digF at h2
    have h3 := of_decide_eq_true h2
    refine ⟨h1.1, ?_⟩
    show _ ≤ dval l a (n + d) * 10 + (bt l (a + (n + d)) - 48)
    omega
theorem srch_ge {p : Nat → Bool} {i N : Nat} (h : i ≤ N) : i ≤ (srch p i (N - i)).getD N := by
  cases hs : srch p i (N - i) with
  | none => exact h
  | some j => exact (srch_bd hs).1
theorem srch_all {p : Nat → Bool} {i : Nat} : ∀ {n e : Nat}, (srch p i n).getD (i + n) = e → ∀ j, i ≤ j → j < e → p j = false := by
  intro n
  induction n generalizing i with
  | zero => intro e h j h1 h2; simp [srch] at h; omega
  | succ n ih =>
    intro e h j h1 h2
    unfold srch at h
    by_cases hp : p i = true
    · rw [if_pos hp] at h; simp at h; omega
    · rw [if_neg hp] at h
      by_cases hj : j = i
      · rw [hj]; simpa using hp
      · exact ih (e := e) (by rw [← h]; congr 1; omega) j (by omega) h2
def numV (l : List UInt8) (a e : Nat) (N : Int) : Value := if 2147483647 < dval l a (e - a) then .tuple #[tokV 0 0 0 [] N, .int .i64 0, .int .i64 4] else .tuple #[tokV 2 0 0 (sub l a (e - a)) (dval l a (e - a)), .int .i64 e, .int .i64 0]
def NumPost (l : List UInt8) (a E : Nat) (w : World) : Ending → World → Prop := fun e w' => (∃ N, e = .returned (numV l a E N)) ∧ Below w.heap.size w w'
set_option maxHeartbeats 4000000 in
set_option maxRecDepth 20000 in
theorem token_num (s : ByteArray) (a : Nat) (K : Value) (w : World) (ha : a < s.size) (hs : s.size ≤ 65535) (hl : letF (s[a].toNat : Int) = false) (hd : digF (s[a].toNat : Int) = true) :
    Calls Tryz.prog 57 #[.string s, .int .i64 a, K] w (NumPost s.data.toList a (runEnd (isD s.data.toList) s.data.toList a) w) := by
  have hby := byte_le s a ha
  have HL := Lib.hid hl; clear hl
  have HD := Lib.hid hd; clear hd
  have hlen : Hid (s.data.toList.length = s.size) := rfl
  have hbd := runEnd_bd (isD s.data.toList) s.data.toList a (by rw [hlen.out]; omega)
  have HE : Hid (runEnd (isD s.data.toList) s.data.toList a = (srch (fun j => !isD s.data.toList j) a (s.size - a)).getD s.size) := rfl
  have HM : Hid (∀ n, n ≤ runEnd (isD s.data.toList) s.data.toList a - a → 0 ≤ dval s.data.toList a n ∧ dval s.data.toList a n ≤ dval s.data.toList a (runEnd (isD s.data.toList) s.data.toList a - a)) := by
    refine fun n hn => dval_mono _ _ _ _ hn fun j h1 h2 => ?_
    have h3 := srch_all (p := fun j => !isD s.data.toList j) (i := a) (n := s.size - a) (e := runEnd (isD s.data.toList) s.data.toList a) (by rw [HE.out]; congr 1; omega) j h1 (by omega)
    simpa using h3
  rw [hlen.out] at hbd
  obtain ⟨hbd1, hbd2⟩ := hbd
  generalize runEnd (isD s.data.toList) s.data.toList a = E at *
  go_enter Tryz.func57, Tryz.ntmps57
  go_wp2
  refine wp_scope_once 1 rfl ?_
  go_wp2_with fail
  refine (letter_any _ _ (by omega) hby).mono ?_
  rintro e w1 ⟨rfl, rfl⟩
  rw [HL.out]
  go_wp2_with fail
  refine (digit_any _ _ (by omega) hby).mono ?_
  rintro e w1 ⟨rfl, rfl⟩
  rw [HD.out]
  go_wp2_with fail
  go_step3
  refine ⟨rfl, ?_⟩
  go_wp2_with fail
  go_loopw [7] (fun i wr => ∃ k : Nat, a ≤ k ∧ k ≤ s.size ∧ k ≤ E ∧ i = .int .i64 k ∧ E = (srch (fun j => !isD s.data.toList j) k (s.size - k)).getD s.size ∧ dval s.data.toList a (k - a) ≤ 2147483647 ∧
    wr.cell? ⟨w.heap.size, 0, none⟩ = some (.int .i64 0) ∧ wr.cell? ⟨w.heap.size, 1, none⟩ = some (.int .i64 0) ∧ wr.cell? ⟨w.heap.size, 2, none⟩ = some (.int .i64 0) ∧ wr.cell? ⟨w.heap.size, 3, none⟩ = some (.string ⟨#[]⟩) ∧ wr.cell? ⟨w.heap.size, 4, none⟩ = some (.int .i64 (dval s.data.toList a (k - a))) ∧ (∀ j, wr.frozen? ⟨w.heap.size, j, none⟩ = false) ∧ Below w.heap.size w wr) (fun i _ => s.size - (intOf i).toNat)
  case atStart => exact ⟨a, by omega, by omega, by omega, rfl, HE.out, by rw [Nat.sub_self]; exact (by decide : (0 : Int) ≤ 2147483647), by simp [go_sem], by simp [go_sem], by simp [go_sem], by simp [go_sem], by rw [Nat.sub_self]; simp [go_sem, dval], by simp [go_sem], by go_grown⟩
  case round =>
    obtain ⟨k, hk1, hk2, hk3, rfl, hE, hv, c0, c1, c2, c3, c4, hf, hB⟩ := hrel
    have HE2 := Lib.hid hE; clear hE
    have hBs := World.block_lt_of_cell? wr _ c0
    simp at hBs
    have hv0 := (HM.out (k - a) (by omega)).1
    by_cases hlt : k < s.size
    · have hbk := byte_le s k hlt
      cases h2 : digF (s[k].toNat : Int)
      · have HE3 : Hid (E = k) := HE2.out.trans (by rw [srch_hit hlt (by unfold isD; rw [bt_eq s k hlt, h2]; rfl)]; rfl)
        have H2 := Lib.hid h2; clear h2
        have hki : (a : Int) ≤ k := by omega
        have hks : (k : Int) ≤ s.size := by omega
        obtain ⟨V, hV⟩ : ∃ V, dval s.data.toList a (k - a) = V := ⟨_, rfl⟩
        rw [hV] at c4 hv hv0
        have HV := Lib.hid hV; clear hV
        go_wp2_with fail
        refine (digit_any _ _ (by omega) hbk).mono ?_
        rintro e w1 ⟨rfl, rfl⟩
        rw [H2.out]
        go_wp2_with fail
        go_region
        go_wp2
        try rw [Exit.noGoto_ret]
        refine bodyPost_ret (v := .tuple #[.agg #[.int .i64 2, .int .i64 0, .int .i64 0, .string (s.extract a k), .int .i64 V], .int .i64 (k : Nat), .int .i64 0]) (by simp [results, Tryz.results57, go_sem, *]) rfl ⟨⟨0, ?_⟩, ?_⟩
        · rw [HE3.out, numV, HV.out, if_neg (by omega), tokV, ext_ba]
        · go_grown
      · have h48 := of_decide_eq_true h2
        obtain ⟨h48a, h48b⟩ := h48
        have HE3 : Hid (E = (srch (fun j => !isD s.data.toList j) (k + 1) (s.size - (k + 1))).getD s.size) := HE2.out.trans (by rw [srch_miss hlt (by unfold isD; rw [bt_eq s k hlt, h2]; rfl)])
        have HV : Hid (dval s.data.toList a (k + 1 - a) = dval s.data.toList a (k - a) * 10 + ((s[k].toNat : Int) - 48)) := by
          unfold Hid
          rw [show k + 1 - a = (k - a) + 1 by omega, dval, show a + (k - a) = k by omega, bt_eq s k hlt]
        have H2 := Lib.hid h2; clear h2
        generalize dval s.data.toList a (k - a) = V at *
        go_wp2_with fail
        refine (digit_any _ _ (by omega) hbk).mono ?_
        rintro e w1 ⟨rfl, rfl⟩
        rw [H2.out]
        go_wp2_with fail
        have hkE : k + 1 ≤ E := by rw [HE3.out]; exact srch_ge (by omega)
        go_region
        go_wp2
        · have hgt : 2147483647 < V * 10 + ((s[k].toNat : Int) - 48) := by assumption
          try rw [Exit.noGoto_ret]
          refine bodyPost_ret (v := .tuple #[tokV 0 0 0 [] (V * 10 + ((s[k].toNat : Int) - 48)), .int .i64 0, .int .i64 4]) (by simp [results, Tryz.results57, go_sem, tokV, *]) rfl ⟨⟨V * 10 + ((s[k].toNat : Int) - 48), ?_⟩, ?_⟩
          · rw [numV, if_pos (by have := HM.out (k + 1 - a) (by omega); rw [HV.out] at this; omega)]
          · go_grown
        · refine ⟨⟨k + 1, by omega, by omega, hkE, by go_num, HE3.out, by rw [HV.out]; assumption, by simp [go_sem, *], by simp [go_sem, *], by simp [go_sem, *], by simp [go_sem, *], by rw [HV.out]; simp [go_sem, *], by simp [go_sem, *], by go_grown⟩, by simp [intOf]; omega⟩
    · have hks' : k = s.size := by omega
      subst hks'
      have HE3 : Hid (E = s.size) := HE2.out.trans (by rw [srch_end (by omega)]; rfl)
      have hki : (a : Int) ≤ s.size := by omega
      obtain ⟨V, hV⟩ : ∃ V, dval s.data.toList a (s.size - a) = V := ⟨_, rfl⟩
      rw [hV] at c4 hv hv0
      have HV := Lib.hid hV; clear hV
      go_wp2_with fail
      go_region
      go_wp2
      try rw [Exit.noGoto_ret]
      refine bodyPost_ret (v := .tuple #[.agg #[.int .i64 2, .int .i64 0, .int .i64 0, .string (s.extract a s.size), .int .i64 V], .int .i64 (s.size : Nat), .int .i64 0]) (by simp [results, Tryz.results57, go_sem, *]) rfl ⟨⟨0, ?_⟩, ?_⟩
      · rw [HE3.out, numV, HV.out, if_neg (by omega), tokV, ext_ba]
      · go_grown
end Go.Proofs.Lx6
namespace Go.Proofs.Lx6
open Go.ChangeShapes Go.WideShapes Go.ChangeAt Go.RowKit
theorem bcell {W w1 : World} (hb : Below W.heap.size W w1) : ∀ b o, b < W.heap.size → w1.cell? ⟨b, o, none⟩ = W.cell? ⟨b, o, none⟩ := fun b o h => hb.cell (p := ⟨b, o, none⟩) h
theorem txt_bd (l : List UInt8) : ∀ f i e, txt l f i = some e → i + 1 ≤ e ∧ e ≤ l.length
  | 0, i, e, h => by simp [txt] at h
  | f + 1, i, e, h => by
    unfold txt at h
    split at h
    · simp at h
    · split at h
      · simp at h; omega
      · split at h
        · simp at h
        · split at h
          · split at h
            · simp at h
            · have := txt_bd l f _ e h; omega
          · have := txt_bd l f _ e h; omega
theorem txtF_bd {l : List UInt8} {a e : Nat} (h : txtF l a = some e) : a + 2 ≤ e ∧ e ≤ l.length := by
  have := txt_bd l _ _ e h; omega
theorem charF_bd {l : List UInt8} {a n : Nat} {v : Int} (h : charF l a = some (v, n)) : 3 ≤ n ∧ n ≤ 4 ∧ a + n ≤ l.length ∧ 0 ≤ v ∧ v ≤ 255 := by
  have hb : ∀ k, 0 ≤ bt l k ∧ bt l k ≤ 255 := fun k => by unfold bt; have := (l.getD k 0).toNat_lt; omega
  unfold charF at h
  split at h
  · have := hb (a + 1)
    simp only [Option.some.injEq, Prod.mk.injEq] at h
    omega
  · split at h
    · unfold escF at h
      (repeat' split at h) <;> simp at h <;> omega
    · simp at h
theorem charF_drop (l : List UInt8) (a : Nat) (ha : a ≤ l.length) : charF (l.drop a) 0 = charF l a := by
  unfold charF
  simp only [bt_drop, List.length_drop, Nat.zero_add]
  congr 1
  · simp only [show (2 < l.length - a) = (a + 2 < l.length) by rw [eq_iff_iff]; omega]
  · simp only [show (3 < l.length - a) = (a + 3 < l.length) by rw [eq_iff_iff]; omega]
/-- What a text's token is. -/
def textV (l : List UInt8) (a : Nat) : Option Nat → Value
  | some e => if 202 + a < e then .tuple #[tokV 0 0 0 [] 0, .int .i64 0, .int .i64 5] else .tuple #[tokV 3 0 0 (sub l (a + 1) (e - a - 2)) 0, .int .i64 e, .int .i64 0]
  | none => .tuple #[tokV 0 0 0 [] 0, .int .i64 0, .int .i64 3]
def quoteV (l : List UInt8) (a : Nat) : Option (Int × Nat) → Value
  | some (v, n) => .tuple #[tokV 2 0 0 (sub l a n) v, .int .i64 (a + n : Nat), .int .i64 0]
  | none => .tuple #[tokV 0 0 0 [] 0, .int .i64 0, .int .i64 3]
set_option maxHeartbeats 4000000 in
set_option maxRecDepth 20000 in
theorem token_text (s : ByteArray) (a : Nat) (K : Value) (w : World) (ha : a < s.size) (hs : s.size ≤ 65535) (hc : (s[a].toNat : Int) = 34) :
    Calls Tryz.prog 57 #[.string s, .int .i64 a, K] w fun e w' => e = .returned (textV s.data.toList a (txtF s.data.toList a)) ∧ Below w.heap.size w w' := by
  have hby := byte_le s a ha
  have HL := Lib.hid (show letF (s[a].toNat : Int) = false by rw [hc]; decide)
  have HD := Lib.hid (show digF (s[a].toNat : Int) = false by rw [hc]; decide)
  have h34 : ((s[a].toNat : Int) == 34) = true := by rw [hc]; rfl
  clear hc
  have TX := Lib.hid (textual_any s a)
  have TB := fun e => @txtF_bd s.data.toList a e
  rw [show s.data.toList.length = s.size from rfl] at TB
  generalize txtF s.data.toList a = T at *
  cases T with
  | none =>
    clear TB
    go_enter Tryz.func57, Tryz.ntmps57
    go_wp2
    refine wp_scope_once 2 rfl ?_
    go_wp2_with fail
    refine (letter_any _ _ (by omega) hby).mono ?_
    rintro e w1 ⟨rfl, rfl⟩
    rw [HL.out]
    go_wp2_with fail
    refine (digit_any _ _ (by omega) hby).mono ?_
    rintro e w1 ⟨rfl, rfl⟩
    rw [HD.out]
    go_wp2_with fail
    go_step3
    refine ⟨rfl, ?_⟩
    go_wp2_with fail
    refine (TX.out _ ha hs).mono ?_
    rintro e w1 ⟨rfl, rfl⟩
    simp only [txR]
    go_wp2_with fail
    try rw [Exit.noGoto_ret]
    refine bodyPost_ret (v := textV s.data.toList a none) (by simp [results, Tryz.results57, go_sem, textV, tokV]) rfl ⟨rfl, by go_grown⟩
  | some e0 =>
    obtain ⟨tb1, tb2⟩ := TB e0 rfl
    clear TB
    by_cases hbig : 202 + a < e0
    · go_enter Tryz.func57, Tryz.ntmps57
      go_wp2
      refine wp_scope_once 2 rfl ?_
      go_wp2_with fail
      refine (letter_any _ _ (by omega) hby).mono ?_
      rintro e w1 ⟨rfl, rfl⟩
      rw [HL.out]
      go_wp2_with fail
      refine (digit_any _ _ (by omega) hby).mono ?_
      rintro e w1 ⟨rfl, rfl⟩
      rw [HD.out]
      go_wp2_with fail
      go_step3
      refine ⟨rfl, ?_⟩
      go_wp2_with fail
      refine (TX.out _ ha hs).mono ?_
      rintro e w1 ⟨rfl, rfl⟩
      simp only [txR]
      rw [if_pos hbig]
      go_wp2_with fail
      try rw [Exit.noGoto_ret]
      refine bodyPost_ret (v := .tuple #[tokV 0 0 0 [] 0, .int .i64 0, .int .i64 5]) (by simp [results, Tryz.results57, go_sem, tokV]) rfl ⟨by rw [textV, if_pos hbig], by go_grown⟩
    · have hi1 : (a : Int) + 1 ≤ (e0 : Int) - 1 := by omega
      have hi2 : (e0 : Int) - 1 ≤ s.size := by omega
      have hi3 : (0 : Int) ≤ (e0 : Int) - 1 := by omega
      go_enter Tryz.func57, Tryz.ntmps57
      go_wp2
      refine wp_scope_once 2 rfl ?_
      go_wp2_with fail
      refine (letter_any _ _ (by omega) hby).mono ?_
      rintro e w1 ⟨rfl, rfl⟩
      rw [HL.out]
      go_wp2_with fail
      refine (digit_any _ _ (by omega) hby).mono ?_
      rintro e w1 ⟨rfl, rfl⟩
      rw [HD.out]
      go_wp2_with fail
      go_step3
      refine ⟨rfl, ?_⟩
      go_wp2_with fail
      refine (TX.out _ ha hs).mono ?_
      rintro e w1 ⟨rfl, rfl⟩
      simp only [txR]
      rw [if_neg hbig]
      go_wp2_with fail
      try rw [Exit.noGoto_ret]
      refine bodyPost_ret (v := .tuple #[.agg #[.int .i64 3, .int .i64 0, .int .i64 0, .string (s.extract (a + 1) (e0 - 1)), .int .i64 0], .int .i64 e0, .int .i64 0]) (by simp [results, Tryz.results57, go_sem]) rfl ⟨?_, by go_grown⟩
      rw [textV, if_neg hbig, tokV, ext_ba, show e0 - 1 - (a + 1) = e0 - a - 2 by omega]
set_option maxHeartbeats 4000000 in
set_option maxRecDepth 20000 in
theorem token_char (s : ByteArray) (a : Nat) (K : Value) (m : Int) (w : World) (ha : a < s.size) (hs : s.size ≤ 65535) (hm : w.cell? ⟨4, 0, none⟩ = some (.int .i64 m)) (hc : (s[a].toNat : Int) = 39) :
    Calls Tryz.prog 57 #[.string s, .int .i64 a, K] w fun e w' => e = .returned (quoteV s.data.toList a (charF s.data.toList a)) ∧ Below w.heap.size w w' := by
  have hby := byte_le s a ha
  have HL := Lib.hid (show letF (s[a].toNat : Int) = false by rw [hc]; decide)
  have HD := Lib.hid (show digF (s[a].toNat : Int) = false by rw [hc]; decide)
  have h34 : ((s[a].toNat : Int) == 34) = false := by rw [hc]; rfl
  have h39 : ((s[a].toNat : Int) == 39) = true := by rw [hc]; rfl
  have hm2 := World.block_lt_of_cell? w _ hm
  simp at hm2
  have HM := Lib.hid hm; clear hm
  have ed : (s.extract a s.size).data.toList = s.data.toList.drop a := Lib.extract_to_end s a
  have QX : Hid (∀ w0 : World, w0.cell? ⟨4, 0, none⟩ = some (.int .i64 m) → Calls Tryz.prog 110 #[.string (s.extract a s.size)] w0 fun e w' => e = .returned (chV (charF s.data.toList a)) ∧ Below w0.heap.size w0 w') := fun w0 h0 => by
    have := quoted_any (s.extract a s.size) m w0 (by simp; omega) (by simp; omega) h0 (by rw [ed, bt_drop, bt_eq s (a + 0) (by omega)]; exact hc)
    rw [ed, charF_drop _ _ (by have : s.data.toList.length = s.size := rfl; omega)] at this
    exact this
  clear hc ed
  have TB := fun v n => @charF_bd s.data.toList a n v
  rw [show s.data.toList.length = s.size from rfl] at TB
  generalize charF s.data.toList a = T at *
  have hu : (Below w.heap.size w (w.alloc (.cells #[.int .i64 0, .int .i64 0, .int .i64 0, .string ⟨#[]⟩, .int .i64 0] 164))) := (Below.refl _ _).alloc (Nat.le_refl _) _
  have HM2 := Lib.hid ((hu.cell (p := ⟨4, 0, none⟩) hm2).trans HM.out)
  clear hu
  cases T with
  | none =>
    clear TB
    go_enter Tryz.func57, Tryz.ntmps57
    go_wp2
    refine wp_scope_once 3 rfl ?_
    go_wp2_with fail
    refine (letter_any _ _ (by omega) hby).mono ?_
    rintro e w1 ⟨rfl, rfl⟩
    rw [HL.out]
    go_wp2_with fail
    refine (digit_any _ _ (by omega) hby).mono ?_
    rintro e w1 ⟨rfl, rfl⟩
    rw [HD.out]
    go_wp2_with fail
    go_step3
    refine ⟨rfl, ?_⟩
    go_wp2_with fail
    refine (QX.out _ HM2.out).mono ?_
    rintro e w1 ⟨rfl, hb1⟩
    have hc1 := bcell hb1
    have hf1 : ∀ b o, b < w.heap.size + 1 → w1.frozen? ⟨b, o, none⟩ = (w.alloc (.cells #[.int .i64 0, .int .i64 0, .int .i64 0, .string ⟨#[]⟩, .int .i64 0] 164)).frozen? ⟨b, o, none⟩ := fun b o h => hb1.frozen (p := ⟨b, o, none⟩) (by simpa using h)
    have hz1 : w.heap.size < w1.heap.size := by have := hb1.size; simp at this; omega
    have B1 : Below w.heap.size w w1 := ((Below.refl _ _).alloc (Nat.le_refl _) _).trans (hb1.mono (by simp))
    have c0 : w1.cell? ⟨w.heap.size, 0, none⟩ = some (.int .i64 0) := by rw [hc1 _ _ (by simp)]; simp [go_sem]
    have c1 : w1.cell? ⟨w.heap.size, 1, none⟩ = some (.int .i64 0) := by rw [hc1 _ _ (by simp)]; simp [go_sem]
    have c2 : w1.cell? ⟨w.heap.size, 2, none⟩ = some (.int .i64 0) := by rw [hc1 _ _ (by simp)]; simp [go_sem]
    have c3 : w1.cell? ⟨w.heap.size, 3, none⟩ = some (.string ⟨#[]⟩) := by rw [hc1 _ _ (by simp)]; simp [go_sem]
    have c4 : w1.cell? ⟨w.heap.size, 4, none⟩ = some (.int .i64 0) := by rw [hc1 _ _ (by simp)]; simp [go_sem]
    have f0 : ∀ o, w1.frozen? ⟨w.heap.size, o, none⟩ = false := fun o => by rw [hf1 _ _ (by simp)]; simp [go_sem]
    clear hc1 hf1 hb1
    have hsz := B1.size
    simp only [chV]
    go_wp2_with fail
    try rw [Exit.noGoto_ret]
    refine bodyPost_ret (v := quoteV s.data.toList a none) (by simp [results, Tryz.results57, go_sem, quoteV, tokV, *]) rfl ⟨rfl, by go_grown⟩
  | some x =>
    obtain ⟨v, n⟩ := x
    obtain ⟨tb1, tb2, tb3, tb4, tb5⟩ := TB v n rfl
    clear TB
    have hi1 : (a : Int) ≤ (a : Int) + n := by omega
    have hi2 : (a : Int) + n ≤ s.size := by omega
    have hn0 : ((n : Int) == 0) = false := by simp; omega
    go_enter Tryz.func57, Tryz.ntmps57
    go_wp2
    refine wp_scope_once 3 rfl ?_
    go_wp2_with fail
    refine (letter_any _ _ (by omega) hby).mono ?_
    rintro e w1 ⟨rfl, rfl⟩
    rw [HL.out]
    go_wp2_with fail
    refine (digit_any _ _ (by omega) hby).mono ?_
    rintro e w1 ⟨rfl, rfl⟩
    rw [HD.out]
    go_wp2_with fail
    go_step3
    refine ⟨rfl, ?_⟩
    go_wp2_with fail
    refine (QX.out _ HM2.out).mono ?_
    rintro e w1 ⟨rfl, hb1⟩
    have hc1 := bcell hb1
    have hf1 : ∀ b o, b < w.heap.size + 1 → w1.frozen? ⟨b, o, none⟩ = (w.alloc (.cells #[.int .i64 0, .int .i64 0, .int .i64 0, .string ⟨#[]⟩, .int .i64 0] 164)).frozen? ⟨b, o, none⟩ := fun b o h => hb1.frozen (p := ⟨b, o, none⟩) (by simpa using h)
    have hz1 : w.heap.size < w1.heap.size := by have := hb1.size; simp at this; omega
    have B1 : Below w.heap.size w w1 := ((Below.refl _ _).alloc (Nat.le_refl _) _).trans (hb1.mono (by simp))
    have c0 : w1.cell? ⟨w.heap.size, 0, none⟩ = some (.int .i64 0) := by rw [hc1 _ _ (by simp)]; simp [go_sem]
    have c1 : w1.cell? ⟨w.heap.size, 1, none⟩ = some (.int .i64 0) := by rw [hc1 _ _ (by simp)]; simp [go_sem]
    have c2 : w1.cell? ⟨w.heap.size, 2, none⟩ = some (.int .i64 0) := by rw [hc1 _ _ (by simp)]; simp [go_sem]
    have c3 : w1.cell? ⟨w.heap.size, 3, none⟩ = some (.string ⟨#[]⟩) := by rw [hc1 _ _ (by simp)]; simp [go_sem]
    have c4 : w1.cell? ⟨w.heap.size, 4, none⟩ = some (.int .i64 0) := by rw [hc1 _ _ (by simp)]; simp [go_sem]
    have f0 : ∀ o, w1.frozen? ⟨w.heap.size, o, none⟩ = false := fun o => by rw [hf1 _ _ (by simp)]; simp [go_sem]
    clear hc1 hf1 hb1
    have hsz := B1.size
    simp only [chV]
    go_wp2_with fail
    go_region
    go_wp2
    try rw [Exit.noGoto_ret]
    refine bodyPost_ret (v := .tuple #[.agg #[.int .i64 2, .int .i64 0, .int .i64 0, .string (s.extract a (a + n)), .int .i64 v], .int .i64 ((a : Int) + n), .int .i64 0]) (by simp [results, Tryz.results57, go_sem, *]) rfl ⟨?_, by go_grown⟩
    rw [quoteV, tokV, ext_ba, Nat.add_sub_cancel_left]
    rfl
end Go.Proofs.Lx6
namespace Go.Proofs.Lx6
open Go.ChangeShapes Go.WideShapes Go.ChangeAt Go.RowKit
/-- The marks, the longer ones first. -/
def marksL : List (List UInt8) := [[33, 33], [63, 63], [45, 62], [58, 58], [43, 43], [45, 45], [60, 60], [62, 62], [60, 61], [62, 61], [61, 61], [33, 61], [38, 38], [124, 124], [46, 46], [33], [63], [60], [62], [61], [43], [45], [42], [47], [37], [38], [124], [94], [126], [40], [41], [91], [93], [123], [125], [44], [59], [58], [46], [64], [35]]
def markJ (l : List UInt8) (a : Nat) : Option Nat := srch (fun j => begF l a (marksL.getD j [])) 0 (41 - 0)
def markV (a : Nat) : Option Nat → Value
  | some j => .tuple #[tokV 4 0 0 (marksL.getD j []) 0, .int .i64 (a + (marksL.getD j []).length : Nat), .int .i64 0]
  | none => .tuple #[tokV 0 0 0 [] 0, .int .i64 0, .int .i64 2]
theorem marks_len : ∀ j, (marksL.getD j []).length ≤ 2 := by
  have h : ∀ j : Fin 41, (marksL.getD j.val []).length ≤ 2 := by decide +kernel
  intro j
  by_cases hj : j < 41
  · exact h ⟨j, hj⟩
  · rw [List.getD_eq_getElem?_getD, List.getElem?_eq_none (by show marksL.length ≤ j; rw [show marksL.length = 41 from by decide +kernel]; omega)]; simp
set_option maxHeartbeats 4000000 in
set_option maxRecDepth 20000 in
theorem token_mark (s : ByteArray) (a : Nat) (kb : Nat) (w : World) (ha : a < s.size) (hs : s.size ≤ 65535) (hk : ∀ i, i < 41 → w.cell? ⟨kb, i, none⟩ = some (.string ⟨(marksL.getD i []).toArray⟩))
   (hl : letF (s[a].toNat : Int) = false) (hd : digF (s[a].toNat : Int) = false) (h34 : ((s[a].toNat : Int) == 34) = false) (h39 : ((s[a].toNat : Int) == 39) = false) :
    Calls Tryz.prog 57 #[.string s, .int .i64 a, .slice (some ⟨kb, 0, none⟩) 41 41] w fun e w' => e = .returned (markV a (markJ s.data.toList a)) ∧ Below w.heap.size w w' := by
  have hby := byte_le s a ha
  have HL := Lib.hid hl; clear hl
  have HD := Lib.hid hd; clear hd
  have hkb := World.block_lt_of_cell? w _ (hk 0 (by omega))
  simp at hkb
  have HK := Lib.hid hk; clear hk
  have ed : (s.extract a s.size).data.toList = s.data.toList.drop a := Lib.extract_to_end s a
  have HP : Hid (∀ (j : Nat) (w0 : World), Calls Tryz.prog 105 #[.string (s.extract a s.size), .string ⟨(marksL.getD j []).toArray⟩] w0 fun e w' => e = .returned (.bool (begF s.data.toList a (marksL.getD j []))) ∧ w' = w0) := fun j w0 => by
    have := Tryz.strings_HasPrefix (s.extract a s.size) ⟨(marksL.getD j []).toArray⟩ w0
    rw [ed] at this
    exact this
  clear ed
  obtain ⟨T, hT⟩ : ∃ T, markJ s.data.toList a = T := ⟨_, rfl⟩
  rw [hT]
  have HT := Lib.hid hT; clear hT
  go_enter Tryz.func57, Tryz.ntmps57
  go_wp2
  refine wp_scope_once 0 rfl ?_
  go_wp2_with fail
  refine (letter_any _ _ (by omega) hby).mono ?_
  rintro e w1 ⟨rfl, rfl⟩
  rw [HL.out]
  go_wp2_with fail
  refine (digit_any _ _ (by omega) hby).mono ?_
  rintro e w1 ⟨rfl, rfl⟩
  rw [HD.out]
  go_wp2_with fail
  go_loop [11, 30] (fun _ i => ∃ k : Nat, k ≤ 41 ∧ i = .int .i64 k ∧ T = srch (fun j => begF s.data.toList a (marksL.getD j [])) k (41 - k)) (fun _ i => 41 - (intOf i).toNat)
  case atStart => exact ⟨0, by omega, rfl, HT.out.symm⟩
  case round =>
    obtain ⟨k, hk1, rfl, hT2⟩ := hrel
    have HT2 := Lib.hid hT2; clear hT2
    by_cases hlt : k < 41
    · have hc : (w.alloc (.cells #[.int .i64 0, .int .i64 0, .int .i64 0, .string ⟨#[]⟩, .int .i64 0] 164)).cell? ⟨kb, k, none⟩ = some (.string ⟨(marksL.getD k []).toArray⟩) :=
        (((Below.refl _ _).alloc (Nat.le_refl _) _).cell (p := ⟨kb, k, none⟩) hkb).trans (HK.out k hlt)
      have hml := marks_len k
      have HPk := Lib.hid (HP.out k)
      obtain ⟨M, hM⟩ : ∃ M, marksL.getD k [] = M := ⟨_, rfl⟩
      cases hb : begF s.data.toList a (marksL.getD k [])
      · have HT3 : Hid (T = srch (fun j => begF s.data.toList a (marksL.getD j [])) (k + 1) (41 - (k + 1))) := HT2.out.trans (srch_miss hlt hb)
        rw [hM] at hc HPk hml hb
        have HB := Lib.hid hb; clear hb
        have HMM := Lib.hid hM; clear hM
        go_wp2_with fail
        refine (HPk.out _).mono ?_
        rintro e w1 ⟨rfl, hw1⟩
        subst hw1
        rw [HB.out]
        go_wp2_with fail
        go_round
        case rel => exact ⟨k + 1, by omega, by go_num, HT3.out⟩
        case measure => simp [intOf]; omega
      · have HT3 : Hid (T = some k) := HT2.out.trans (srch_hit hlt hb)
        rw [hM] at hc HPk hml hb
        have HB := Lib.hid hb; clear hb
        have HMM := Lib.hid hM; clear hM
        go_wp2_with fail
        refine (HPk.out _).mono ?_
        rintro e w1 ⟨rfl, hw1⟩
        subst hw1
        rw [HB.out]
        go_wp2_with fail
        simp only [Exit.jump]
        refine bodyPost_ret (v := .tuple #[.agg #[.int .i64 4, .int .i64 0, .int .i64 0, .string ⟨M.toArray⟩, .int .i64 0], .int .i64 ((a : Int) + M.length), .int .i64 0]) (by simp [results, Tryz.results57, go_sem]) rfl ⟨?_, by go_grown⟩
        rw [HT3.out, markV, HMM.out, tokV]
        rfl
    · have hk41 : 41 ≤ k := by omega
      have HT3 : Hid (T = none) := HT2.out.trans (srch_end (by omega))
      go_wp2_with fail
      simp only [Exit.jump]
      refine bodyPost_ret (v := .tuple #[tokV 0 0 0 [] 0, .int .i64 0, .int .i64 2]) (by simp [results, Tryz.results57, go_sem, tokV]) rfl ⟨?_, by go_grown⟩
      rw [HT3.out, markV]
/-- What token begins at a place: what is wrong (0: nothing), its kind, its text, its number, how many bytes it takes. -/
structure TR where
  e : Int
  kind : Int
  text : List UInt8
  n : Int
  len : Nat
def TR.bad (e : Int) : TR := ⟨e, 0, [], 0, 0⟩
def nextF (l : List UInt8) (a : Nat) : TR :=
  if letF (bt l a) = true then (if 32 < runEnd (isW l) l a - a then .bad 5 else ⟨0, 1, sub l a (runEnd (isW l) l a - a), 0, runEnd (isW l) l a - a⟩)
  else if digF (bt l a) = true then (if 2147483647 < dval l a (runEnd (isD l) l a - a) then .bad 4 else ⟨0, 2, sub l a (runEnd (isD l) l a - a), dval l a (runEnd (isD l) l a - a), runEnd (isD l) l a - a⟩)
  else if bt l a = 34 then (match txtF l a with
    | none => .bad 3
    | some e => if 202 + a < e then .bad 5 else ⟨0, 3, sub l (a + 1) (e - a - 2), 0, e - a⟩)
  else if bt l a = 39 then (match charF l a with
    | none => .bad 3
    | some (v, n) => ⟨0, 2, sub l a n, v, n⟩)
  else match markJ l a with
    | none => .bad 2
    | some j => ⟨0, 4, marksL.getD j [], 0, (marksL.getD j []).length⟩
def TokPost (r : TR) (a : Nat) (w : World) : Ending → World → Prop := fun e w' => (∃ (k n en : Int) (tx : ByteArray), e = .returned (.tuple #[.agg #[.int .i64 k, .int .i64 0, .int .i64 0, .string tx, .int .i64 n], .int .i64 en, .int .i64 r.e]) ∧ (r.e = 0 → k = r.kind ∧ n = r.n ∧ tx = ⟨r.text.toArray⟩ ∧ en = a + r.len)) ∧ Below w.heap.size w w'
theorem token_any (s : ByteArray) (a : Nat) (kb : Nat) (m : Int) (w : World) (ha : a < s.size) (hs : s.size ≤ 65535) (hm : w.cell? ⟨4, 0, none⟩ = some (.int .i64 m)) (hk : ∀ i, i < 41 → w.cell? ⟨kb, i, none⟩ = some (.string ⟨(marksL.getD i []).toArray⟩)) :
    Calls Tryz.prog 57 #[.string s, .int .i64 a, .slice (some ⟨kb, 0, none⟩) 41 41] w (TokPost (nextF s.data.toList a) a w) := by
  have hb := bt_eq s a ha
  have hlen : s.data.toList.length = s.size := rfl
  unfold nextF
  rw [hb]
  cases h1 : letF (s[a].toNat : Int)
  · rw [if_neg (by decide)]
    cases h2 : digF (s[a].toNat : Int)
    · rw [if_neg (by decide)]
      by_cases h34 : (s[a].toNat : Int) = 34
      · rw [if_pos h34]
        refine (token_text s a _ w ha hs h34).mono ?_
        rintro e w' ⟨rfl, hB⟩
        refine ⟨?_, hB⟩
        cases hT : txtF s.data.toList a with
        | none => exact ⟨0, 0, 0, ⟨#[]⟩, rfl, fun h => absurd (show (3 : Int) = 0 from h) (by decide)⟩
        | some e0 =>
          have hbd := txtF_bd hT
          by_cases hbig : 202 + a < e0
          · simp only [textV]
            rw [if_pos hbig, if_pos hbig]
            exact ⟨0, 0, 0, ⟨#[]⟩, rfl, fun h => absurd (show (5 : Int) = 0 from h) (by decide)⟩
          · simp only [textV]
            rw [if_neg hbig, if_neg hbig]
            exact ⟨3, 0, e0, _, rfl, fun _ => ⟨rfl, rfl, rfl, by show (e0 : Int) = a + ((e0 - a : Nat) : Int); omega⟩⟩
      · rw [if_neg h34]
        by_cases h39 : (s[a].toNat : Int) = 39
        · rw [if_pos h39]
          refine (token_char s a _ m w ha hs hm h39).mono ?_
          rintro e w' ⟨rfl, hB⟩
          refine ⟨?_, hB⟩
          cases hT : charF s.data.toList a with
          | none => exact ⟨0, 0, 0, ⟨#[]⟩, rfl, fun h => absurd (show (3 : Int) = 0 from h) (by decide)⟩
          | some x => exact ⟨2, x.1, (a + x.2 : Nat), _, rfl, fun _ => ⟨rfl, rfl, rfl, by show ((a + x.2 : Nat) : Int) = a + (x.2 : Int); omega⟩⟩
        · rw [if_neg h39]
          refine (token_mark s a kb w ha hs hk h1 h2 (by simpa using h34) (by simpa using h39)).mono ?_
          rintro e w' ⟨rfl, hB⟩
          refine ⟨?_, hB⟩
          cases hT : markJ s.data.toList a with
          | none => exact ⟨0, 0, 0, ⟨#[]⟩, rfl, fun h => absurd (show (2 : Int) = 0 from h) (by decide)⟩
          | some j => exact ⟨4, 0, _, _, rfl, fun _ => ⟨rfl, rfl, rfl, by push_cast; rfl⟩⟩
    · rw [if_pos rfl]
      refine (token_num s a _ w ha hs h1 h2).mono ?_
      rintro e w' ⟨⟨N, rfl⟩, hB⟩
      refine ⟨?_, hB⟩
      have hbd := runEnd_bd (isD s.data.toList) s.data.toList a (by omega)
      unfold numV
      split
      · exact ⟨0, N, 0, ⟨#[]⟩, rfl, fun h => absurd (show (4 : Int) = 0 from h) (by decide)⟩
      · exact ⟨2, _, _, _, rfl, fun _ => ⟨rfl, rfl, rfl, by show _ = _; simp only []; omega⟩⟩
  · rw [if_pos rfl]
    refine (token_name s a _ w ha hs h1).mono ?_
    rintro e w' ⟨rfl, hB⟩
    refine ⟨?_, hB⟩
    have hbd := runEnd_bd (isW s.data.toList) s.data.toList a (by omega)
    unfold nameV
    split
    · exact ⟨0, 0, 0, ⟨#[]⟩, rfl, fun h => absurd (show (5 : Int) = 0 from h) (by decide)⟩
    · exact ⟨1, 0, _, _, rfl, fun _ => ⟨rfl, rfl, rfl, by show _ = _; simp only []; omega⟩⟩
end Go.Proofs.Lx6

/-
  Contract of lex's token where a number begins. Conditions: the text has at most 65535 bytes.
-/
import Derived.Test.YtmnkbjjffgcdmaaDoorF
namespace Go.Proofs.YtmnkbjjffgcdmaaDoor
open Go.ChangeShapes Go.WideShapes Go.ChangeAt Go.RowKit
/-- The number that digits from a place on make. -/
def dval (l : List UInt8) : Nat → Nat → Int
  | _, 0 => 0
  | a, n + 1 => dval l a n * 10 + (bt l (a + n) - 48)
theorem dval_mono (l : List UInt8) (a : Nat) : ∀ n m, n ≤ m → (∀ j, a ≤ j → j < a + m → isD l j = true) → 0 ≤ dval l a n ∧ dval l a n ≤ dval l a m := by
  have nonneg : ∀ n, (∀ j, a ≤ j → j < a + n → isD l j = true) → 0 ≤ dval l a n := by
    intro n
    induction n with
    | zero => intro _; exact Int.le_refl _
    | succ n ih =>
      intro h
      have h1 := ih (fun j a b => h j a (by omega))
      have h2 := h (a + n) (by omega) (by omega)
      unfold isD digF at h2
      have h3 := of_decide_eq_true h2
      unfold dval
      omega
  intro n m hnm
  obtain ⟨d, rfl⟩ : ∃ d, m = n + d := ⟨m - n, by omega⟩
  induction d with
  | zero => intro h; exact ⟨nonneg n h, Int.le_refl _⟩
  | succ d ih =>
    intro h
    have h1 := ih (by omega) (fun j a b => h j a (by omega))
    have h0 := nonneg (n + d) (fun j a b => h j a (by omega))
    have h2 := h (a + (n + d)) (by omega) (by omega)
    unfold isD digF at h2
    have h3 := of_decide_eq_true h2
    refine ⟨h1.1, ?_⟩
    show _ ≤ dval l a (n + d) * 10 + (bt l (a + (n + d)) - 48)
    omega
theorem srch_ge {p : Nat → Bool} {i N : Nat} (h : i ≤ N) : i ≤ (srch p i (N - i)).getD N := by
  cases hs : srch p i (N - i) with
  | none => exact h
  | some j => exact (srch_bd hs).1
theorem srch_all {p : Nat → Bool} {i : Nat} : ∀ {n e : Nat}, (srch p i n).getD (i + n) = e → ∀ j, i ≤ j → j < e → p j = false := by
  intro n
  induction n generalizing i with
  | zero => intro e h j h1 h2; simp [srch] at h; omega
  | succ n ih =>
    intro e h j h1 h2
    unfold srch at h
    by_cases hp : p i = true
    · rw [if_pos hp] at h; simp at h; omega
    · rw [if_neg hp] at h
      by_cases hj : j = i
      · rw [hj]; simpa using hp
      · exact ih (e := e) (by rw [← h]; congr 1; omega) j (by omega) h2
def numV (l : List UInt8) (a e : Nat) (N : Int) : Value := if 2147483647 < dval l a (e - a) then .tuple #[tokV 0 0 0 [] N, .int .i64 0, .int .i64 4] else .tuple #[tokV 2 0 0 (sub l a (e - a)) (dval l a (e - a)), .int .i64 e, .int .i64 0]
def NumPost (l : List UInt8) (a E : Nat) (w : World) : Ending → World → Prop := fun e w' => (∃ N, e = .returned (numV l a E N)) ∧ Below w.heap.size w w'
set_option maxHeartbeats 4000000 in
set_option maxRecDepth 20000 in
theorem token_num (s : ByteArray) (a : Nat) (K : Value) (w : World) (ha : a < s.size) (hs : s.size ≤ 65535) (hl : letF (s[a].toNat : Int) = false) (hd : digF (s[a].toNat : Int) = true) :
    Calls Tryd.prog 10 #[.string s, .int .i64 a, K] w (NumPost s.data.toList a (runEnd (isD s.data.toList) s.data.toList a) w) := by
  have hby := byte_le s a ha
  have HL := Lib.hid hl; clear hl
  have HD := Lib.hid hd; clear hd
  have hlen : Hid (s.data.toList.length = s.size) := rfl
  have hbd := runEnd_bd (isD s.data.toList) s.data.toList a (by rw [hlen.out]; omega)
  have HE : Hid (runEnd (isD s.data.toList) s.data.toList a = (srch (fun j => !isD s.data.toList j) a (s.size - a)).getD s.size) := rfl
  have HM : Hid (∀ n, n ≤ runEnd (isD s.data.toList) s.data.toList a - a → 0 ≤ dval s.data.toList a n ∧ dval s.data.toList a n ≤ dval s.data.toList a (runEnd (isD s.data.toList) s.data.toList a - a)) := by
    refine fun n hn => dval_mono _ _ _ _ hn fun j h1 h2 => ?_
    have h3 := srch_all (p := fun j => !isD s.data.toList j) (i := a) (n := s.size - a) (e := runEnd (isD s.data.toList) s.data.toList a) (by rw [HE.out]; congr 1; omega) j h1 (by omega)
    simpa using h3
  rw [hlen.out] at hbd
  obtain ⟨hbd1, hbd2⟩ := hbd
  generalize runEnd (isD s.data.toList) s.data.toList a = E at *
  go_enter Tryd.func10, Tryd.ntmps10
  go_wp2
  refine wp_scope_once 1 rfl ?_
  go_wp2_with fail
  refine (letter_any _ _ (by omega) hby).mono ?_
  rintro e w1 ⟨rfl, rfl⟩
  rw [HL.out]
  go_wp2_with fail
  refine (digit_any _ _ (by omega) hby).mono ?_
  rintro e w1 ⟨rfl, rfl⟩
  rw [HD.out]
  go_wp2_with fail
  go_step3
  refine ⟨rfl, ?_⟩
  go_wp2_with fail
  go_loopw [7] (fun i wr => ∃ k : Nat, a ≤ k ∧ k ≤ s.size ∧ k ≤ E ∧ i = .int .i64 k ∧ E = (srch (fun j => !isD s.data.toList j) k (s.size - k)).getD s.size ∧ dval s.data.toList a (k - a) ≤ 2147483647 ∧
    wr.cell? ⟨w.heap.size, 0, none⟩ = some (.int .i64 0) ∧ wr.cell? ⟨w.heap.size, 1, none⟩ = some (.int .i64 0) ∧ wr.cell? ⟨w.heap.size, 2, none⟩ = some (.int .i64 0) ∧ wr.cell? ⟨w.heap.size, 3, none⟩ = some (.string ⟨#[]⟩) ∧ wr.cell? ⟨w.heap.size, 4, none⟩ = some (.int .i64 (dval s.data.toList a (k - a))) ∧ (∀ j, wr.frozen? ⟨w.heap.size, j, none⟩ = false) ∧ Below w.heap.size w wr) (fun i _ => s.size - (intOf i).toNat)
  case atStart => exact ⟨a, by omega, by omega, by omega, rfl, HE.out, by rw [Nat.sub_self]; exact (by decide : (0 : Int) ≤ 2147483647), by simp [go_sem], by simp [go_sem], by simp [go_sem], by simp [go_sem], by rw [Nat.sub_self]; simp [go_sem, dval], by simp [go_sem], by go_grown⟩
  case round =>
    obtain ⟨k, hk1, hk2, hk3, rfl, hE, hv, c0, c1, c2, c3, c4, hf, hB⟩ := hrel
    have HE2 := Lib.hid hE; clear hE
    have hBs := World.block_lt_of_cell? wr _ c0
    simp at hBs
    have hv0 := (HM.out (k - a) (by omega)).1
    by_cases hlt : k < s.size
    · have hbk := byte_le s k hlt
      cases h2 : digF (s[k].toNat : Int)
      · have HE3 : Hid (E = k) := HE2.out.trans (by rw [srch_hit hlt (by unfold isD; rw [bt_eq s k hlt, h2]; rfl)]; rfl)
        have H2 := Lib.hid h2; clear h2
        have hki : (a : Int) ≤ k := by omega
        have hks : (k : Int) ≤ s.size := by omega
        obtain ⟨V, hV⟩ : ∃ V, dval s.data.toList a (k - a) = V := ⟨_, rfl⟩
        rw [hV] at c4 hv hv0
        have HV := Lib.hid hV; clear hV
        go_wp2_with fail
        refine (digit_any _ _ (by omega) hbk).mono ?_
        rintro e w1 ⟨rfl, rfl⟩
        rw [H2.out]
        go_wp2_with fail
        go_region
        go_wp2
        try rw [Exit.noGoto_ret]
        refine bodyPost_ret (v := .tuple #[.agg #[.int .i64 2, .int .i64 0, .int .i64 0, .string (s.extract a k), .int .i64 V], .int .i64 (k : Nat), .int .i64 0]) (by simp [results, Tryd.results10, go_sem, *]) rfl ⟨⟨0, ?_⟩, ?_⟩
        · rw [HE3.out, numV, HV.out, if_neg (by omega), tokV, ext_ba]
        · go_grown
      · have h48 := of_decide_eq_true h2
        obtain ⟨h48a, h48b⟩ := h48
        have HE3 : Hid (E = (srch (fun j => !isD s.data.toList j) (k + 1) (s.size - (k + 1))).getD s.size) := HE2.out.trans (by rw [srch_miss hlt (by unfold isD; rw [bt_eq s k hlt, h2]; rfl)])
        have HV : Hid (dval s.data.toList a (k + 1 - a) = dval s.data.toList a (k - a) * 10 + ((s[k].toNat : Int) - 48)) := by
          unfold Hid
          rw [show k + 1 - a = (k - a) + 1 by omega, dval, show a + (k - a) = k by omega, bt_eq s k hlt]
        have H2 := Lib.hid h2; clear h2
        generalize dval s.data.toList a (k - a) = V at *
        go_wp2_with fail
        refine (digit_any _ _ (by omega) hbk).mono ?_
        rintro e w1 ⟨rfl, rfl⟩
        rw [H2.out]
        go_wp2_with fail
        have hkE : k + 1 ≤ E := by rw [HE3.out]; exact srch_ge (by omega)
        go_region
        go_wp2
        · have hgt : 2147483647 < V * 10 + ((s[k].toNat : Int) - 48) := by assumption
          try rw [Exit.noGoto_ret]
          refine bodyPost_ret (v := .tuple #[tokV 0 0 0 [] (V * 10 + ((s[k].toNat : Int) - 48)), .int .i64 0, .int .i64 4]) (by simp [results, Tryd.results10, go_sem, tokV, *]) rfl ⟨⟨V * 10 + ((s[k].toNat : Int) - 48), ?_⟩, ?_⟩
          · rw [numV, if_pos (by have := HM.out (k + 1 - a) (by omega); rw [HV.out] at this; omega)]
          · go_grown
        · refine ⟨⟨k + 1, by omega, by omega, hkE, by go_num, HE3.out, by rw [HV.out]; assumption, by simp [go_sem, *], by simp [go_sem, *], by simp [go_sem, *], by simp [go_sem, *], by rw [HV.out]; simp [go_sem, *], by simp [go_sem, *], by go_grown⟩, by simp [intOf]; omega⟩
    · have hks' : k = s.size := by omega
      subst hks'
      have HE3 : Hid (E = s.size) := HE2.out.trans (by rw [srch_end (by omega)]; rfl)
      have hki : (a : Int) ≤ s.size := by omega
      obtain ⟨V, hV⟩ : ∃ V, dval s.data.toList a (s.size - a) = V := ⟨_, rfl⟩
      rw [hV] at c4 hv hv0
      have HV := Lib.hid hV; clear hV
      go_wp2_with fail
      go_region
      go_wp2
      try rw [Exit.noGoto_ret]
      refine bodyPost_ret (v := .tuple #[.agg #[.int .i64 2, .int .i64 0, .int .i64 0, .string (s.extract a s.size), .int .i64 V], .int .i64 (s.size : Nat), .int .i64 0]) (by simp [results, Tryd.results10, go_sem, *]) rfl ⟨⟨0, ?_⟩, ?_⟩
      · rw [HE3.out, numV, HV.out, if_neg (by omega), tokV, ext_ba]
      · go_grown
end Go.Proofs.YtmnkbjjffgcdmaaDoor

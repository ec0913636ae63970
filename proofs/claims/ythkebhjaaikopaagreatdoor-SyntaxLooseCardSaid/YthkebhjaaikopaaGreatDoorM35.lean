/- Part of the proof of SyntaxLooseCardSaid (LFx LGx LHx LIx). -/
import Derived.Test.YthkebhjaaikopaaGreatDoorM34
import Derived.BigRegion
import Derived.RegionTactic
import Derived.ChangeAlike
import Derived.ScopeJumps
import Derived.WalkMore
set_option maxHeartbeats 8000000
namespace Go.Proofs.YthkebhjaaikopaaGreatDoor.Lx
open Go.ChangeShapes Go.WideShapes Go.ChangeAt Go.RowKit
theorem d7 {P : Program} {a : Act} {w : World} {Q : Exit → Act → World → Prop} {c rest : Code} (l : Nat) (hf : findLabel c l = some rest)
 (first : c.wp P (Exit.jump l (fun a w => rest.wp P (Exit.noGoto Q) a w) Q) a w) : (Code.scope c).wp P Q a w :=
 wp_scope_jumps l (fun a w => rest.wp P (Exit.noGoto Q) a w) (fun _ _ => 0) hf first (fun a w h => wp_mono h (fun e a w hq => by
  cases e with
  | goto l' => exact hq.elim
  | _ => exact hq))
def fD (l : List UInt8) (j : Nat) : Bool := eD (bt l j) || dU (bt l j)
def ez (l : List UInt8) (j : Nat) : Bool := dU (bt l j)
def aW (p : Nat → Bool) (l : List UInt8) (a : Nat) : Nat := (bq (fun j => !p j) a (l.length - a)).getD l.length
def jh (l : List UInt8) (a n : Nat) : List UInt8 := (l.drop a).take n
def cx (k at_ line : Int) (text : List UInt8) (n : Int) : Value := .agg #[.int .i64 k, .int .i64 at_, .int .i64 line, .string ⟨text.toArray⟩, .int .i64 n]
theorem kQ (s : ByteArray) (a b : Nat) : s.extract a b = ⟨(jh s.data.toList a (b - a)).toArray⟩ := by
 have h := Lib.extract_data s a b; generalize s.extract a b = x at h ⊢; obtain ⟨⟨d⟩⟩ := x; have h' : d = jh s.data.toList a (b - a) := h; rw [h']
theorem cy (s : ByteArray) (k : Nat) (hk : k < s.size) : (s[k].toNat : Int) ≤ 255 := by have := s[k].toNat_lt; omega
theorem de (p : Nat → Bool) (l : List UInt8) (a : Nat) (h : a ≤ l.length) : a ≤ aW p l a ∧ aW p l a ≤ l.length := by
 unfold aW; cases hs : bq (fun j => !p j) a (l.length - a) with
 | none => exact ⟨h, Nat.le_refl _⟩
 | some j => have := fc hs; exact ⟨this.1, by simp; omega⟩
def jL (a e : Nat) (l : List UInt8) : Value := if 32 < e - a then .tuple #[cx 0 0 0 [] 0, .int .i64 0, .int .i64 5] else .tuple #[cx 1 0 0 (jh l a (e - a)) 0, .int .i64 e, .int .i64 0]
set_option maxRecDepth 20000 in
theorem mO (s : ByteArray) (a : Nat) (K : Value) (w : World) (ha : a < s.size) (hs : s.size ≤ 65535) (hl : eD (s[a].toNat : Int) = true) :
 Calls Tryz.prog 71 #[.string s, .int .i64 a, K] w fun e w' => e = .returned (jL a (aW (fD s.data.toList) s.data.toList a) s.data.toList) ∧ Below w.heap.size w w' := by
 have hby := cy s a ha; have HL := qd hl; clear hl; have hlen : Hid (s.data.toList.length = s.size) := rfl; have hbd := de (fD s.data.toList) s.data.toList a (by rw [hlen.out]; omega); have HE : Hid (aW (fD s.data.toList) s.data.toList a = (bq (fun j => !fD s.data.toList j) a (s.size - a)).getD s.size) := rfl; rw [hlen.out] at hbd; obtain ⟨hbd1, hbd2⟩ := hbd; generalize aW (fD s.data.toList) s.data.toList a = E at *; go_enter Tryz.func71, Tryz.ntmps71; go_wp2; refine d7 0 rfl ?_; go_wp2_with fail; refine (dg _ _ (by omega) hby).mono ?_; rintro e w1 ⟨rfl, rfl⟩; rw [HL.out]; go_wp2_with fail
 go_step3
 refine ⟨rfl, ?_⟩; go_wp2_with fail
 go_loop [7] (fun i => ∃ k : Nat, a ≤ k ∧ k ≤ s.size ∧ i = .int .i64 k ∧ E = (bq (fun j => !fD s.data.toList j) k (s.size - k)).getD s.size) (fun i => s.size - (intOf i).toNat)
 case atStart => exact ⟨a, by omega, by omega, rfl, HE.out⟩
 case round =>
  obtain ⟨k, hk1, hk2, rfl, hE⟩ := hrel; have HE2 := qd hE; clear hE
  by_cases hlt : k < s.size
  · have hbk := cy s k hlt; cases h1 : eD (s[k].toNat : Int)
    · cases h2 : dU (s[k].toNat : Int)
      · have HE3 : Hid (E = k) := HE2.out.trans (by rw [dj hlt (by unfold fD; rw [ck s k hlt, h1, h2]; rfl)]; rfl); have H1 := qd h1; clear h1; have H2 := qd h2; clear h2; go_wp2_with fail; refine (dg _ _ (by omega) hbk).mono ?_; rintro e w1 ⟨rfl, rfl⟩; rw [H1.out]; go_wp2_with fail; refine (dF _ _ (by omega) hbk).mono ?_; rintro e w1 ⟨rfl, rfl⟩; rw [H2.out]
        by_cases hbig : 32 < (k : Int) - a
        · go_wp2_with fail
          try rw [Exit.noGoto_ret]
          refine bodyPost_ret (v := .tuple #[cx 0 0 0 [] 0, .int .i64 0, .int .i64 5]) (by simp [results, Tryz.results71, go_sem, cx]) rfl ⟨?_, by go_grown⟩; rw [HE3.out, jL, if_pos (by omega)]
        · go_wp2_with fail
          try rw [Exit.noGoto_ret]
          refine bodyPost_ret (v := .tuple #[.agg #[.int .i64 1, .int .i64 0, .int .i64 0, .string (s.extract a k), .int .i64 0], .int .i64 (k : Nat), .int .i64 0]) (by simp [results, Tryz.results71, go_sem]) rfl ⟨?_, by go_grown⟩; rw [HE3.out, jL, if_neg (by omega), cx, kQ]
      · have HE3 : Hid (E = (bq (fun j => !fD s.data.toList j) (k + 1) (s.size - (k + 1))).getD s.size) := HE2.out.trans (by rw [cg hlt (by unfold fD; rw [ck s k hlt, h1, h2]; rfl)]); have H1 := qd h1; clear h1; have H2 := qd h2; clear h2; go_wp2_with fail; refine (dg _ _ (by omega) hbk).mono ?_; rintro e w1 ⟨rfl, rfl⟩; rw [H1.out]; go_wp2_with fail; refine (dF _ _ (by omega) hbk).mono ?_; rintro e w1 ⟨rfl, rfl⟩; rw [H2.out]; go_wp2_with fail
        go_round
        case rel => exact ⟨k + 1, by omega, by omega, by go_num, HE3.out⟩
        case measure => simp [intOf]; omega
    · have HE3 : Hid (E = (bq (fun j => !fD s.data.toList j) (k + 1) (s.size - (k + 1))).getD s.size) := HE2.out.trans (by rw [cg hlt (by unfold fD; rw [ck s k hlt, h1]; rfl)]); have H1 := qd h1; clear h1; go_wp2_with fail; refine (dg _ _ (by omega) hbk).mono ?_; rintro e w1 ⟨rfl, rfl⟩; rw [H1.out]; go_wp2_with fail
      go_round
      case rel => exact ⟨k + 1, by omega, by omega, by go_num, HE3.out⟩
      case measure => simp [intOf]; omega
  · have HE3 : Hid (E = s.size) := HE2.out.trans (by rw [dk (by omega)]; rfl); have hks : k = s.size := by omega
    subst hks
    by_cases hbig : 32 < (s.size : Int) - a
    · go_wp2_with fail
      try rw [Exit.noGoto_ret]
      refine bodyPost_ret (v := .tuple #[cx 0 0 0 [] 0, .int .i64 0, .int .i64 5]) (by simp [results, Tryz.results71, go_sem, cx]) rfl ⟨?_, by go_grown⟩; rw [HE3.out, jL, if_pos (by omega)]
    · go_wp2_with fail
      try rw [Exit.noGoto_ret]
      refine bodyPost_ret (v := .tuple #[.agg #[.int .i64 1, .int .i64 0, .int .i64 0, .string (s.extract a s.size), .int .i64 0], .int .i64 (s.size : Nat), .int .i64 0]) (by simp [results, Tryz.results71, go_sem]) rfl ⟨?_, by go_grown⟩; rw [HE3.out, jL, if_neg (by omega), cx, kQ]
def bW (l : List UInt8) : Nat → Nat → Int
 | _, 0 => 0
 | a, n + 1 => bW l a n * 10 + (bt l (a + n) - 48)
theorem jW (l : List UInt8) (a : Nat) : ∀ n m, n ≤ m → (∀ j, a ≤ j → j < a + m → ez l j = true) → 0 ≤ bW l a n ∧ bW l a n ≤ bW l a m := by
 have nonneg : ∀ n, (∀ j, a ≤ j → j < a + n → ez l j = true) → 0 ≤ bW l a n := by
  intro n
  induction n with
  | zero => intro _; exact Int.le_refl _
  | succ n ih =>
    intro h; have h1 := ih (fun j a b => h j a (by omega)); have h2 := h (a + n) (by omega) (by omega); unfold ez dU at h2; have h3 := of_decide_eq_true h2; unfold bW; omega
 intro n m hnm; obtain ⟨d, rfl⟩ : ∃ d, m = n + d := ⟨m - n, by omega⟩
 induction d with
 | zero => intro h; exact ⟨nonneg n h, Int.le_refl _⟩
 | succ d ih =>
   intro h; have h1 := ih (by omega) (fun j a b => h j a (by omega)); have h0 := nonneg (n + d) (fun j a b => h j a (by omega)); have h2 := h (a + (n + d)) (by omega) (by omega); unfold ez dU at h2; have h3 := of_decide_eq_true h2; refine ⟨h1.1, ?_⟩; show _ ≤ bW l a (n + d) * 10 + (bt l (a + (n + d)) - 48); omega
theorem gX {p : Nat → Bool} {i N : Nat} (h : i ≤ N) : i ≤ (bq p i (N - i)).getD N := by
 cases hs : bq p i (N - i) with
 | none => exact h
 | some j => exact (fc hs).1
theorem ly {p : Nat → Bool} {i : Nat} : ∀ {n e : Nat}, (bq p i n).getD (i + n) = e → ∀ j, i ≤ j → j < e → p j = false := by
 intro n
 induction n generalizing i with
 | zero => intro e h j h1 h2; simp [bq] at h; omega
 | succ n ih =>
   intro e h j h1 h2; unfold bq at h
   by_cases hp : p i = true
   · rw [if_pos hp] at h; simp at h; omega
   · rw [if_neg hp] at h
     by_cases hj : j = i
     · rw [hj]; simpa using hp
     · exact ih (e := e) (by rw [← h]; congr 1; omega) j (by omega) h2
def qC (l : List UInt8) (a e : Nat) (N : Int) : Value := if 2147483647 < bW l a (e - a) then .tuple #[cx 0 0 0 [] N, .int .i64 0, .int .i64 4] else .tuple #[cx 2 0 0 (jh l a (e - a)) (bW l a (e - a)), .int .i64 e, .int .i64 0]
def sM (l : List UInt8) (a E : Nat) (w : World) : Ending → World → Prop := fun e w' => (∃ N, e = .returned (qC l a E N)) ∧ Below w.heap.size w w'
set_option maxRecDepth 20000 in
theorem oZ (s : ByteArray) (a : Nat) (K : Value) (w : World) (ha : a < s.size) (hs : s.size ≤ 65535) (hl : eD (s[a].toNat : Int) = false) (hd : dU (s[a].toNat : Int) = true) :
 Calls Tryz.prog 71 #[.string s, .int .i64 a, K] w (sM s.data.toList a (aW (ez s.data.toList) s.data.toList a) w) := by
 have hby := cy s a ha; have HL := qd hl; clear hl; have HD := qd hd; clear hd; have hlen : Hid (s.data.toList.length = s.size) := rfl; have hbd := de (ez s.data.toList) s.data.toList a (by rw [hlen.out]; omega); have HE : Hid (aW (ez s.data.toList) s.data.toList a = (bq (fun j => !ez s.data.toList j) a (s.size - a)).getD s.size) := rfl; have HM : Hid (∀ n, n ≤ aW (ez s.data.toList) s.data.toList a - a → 0 ≤ bW s.data.toList a n ∧ bW s.data.toList a n ≤ bW s.data.toList a (aW (ez s.data.toList) s.data.toList a - a)) := by
  refine fun n hn => jW _ _ _ _ hn fun j h1 h2 => ?_
  have h3 := ly (p := fun j => !ez s.data.toList j) (i := a) (n := s.size - a) (e := aW (ez s.data.toList) s.data.toList a) (by rw [HE.out]; congr 1; omega) j h1 (by omega); simpa using h3
 rw [hlen.out] at hbd; obtain ⟨hbd1, hbd2⟩ := hbd; generalize aW (ez s.data.toList) s.data.toList a = E at *; go_enter Tryz.func71, Tryz.ntmps71; go_wp2; refine d7 1 rfl ?_; go_wp2_with fail; refine (dg _ _ (by omega) hby).mono ?_; rintro e w1 ⟨rfl, rfl⟩; rw [HL.out]; go_wp2_with fail; refine (dF _ _ (by omega) hby).mono ?_; rintro e w1 ⟨rfl, rfl⟩; rw [HD.out]; go_wp2_with fail
 go_step3
 refine ⟨rfl, ?_⟩; go_wp2_with fail
 go_loopw [7] (fun i wr => ∃ k : Nat, a ≤ k ∧ k ≤ s.size ∧ k ≤ E ∧ i = .int .i64 k ∧ E = (bq (fun j => !ez s.data.toList j) k (s.size - k)).getD s.size ∧ bW s.data.toList a (k - a) ≤ 2147483647 ∧
  wr.cell? ⟨w.heap.size, 0, none⟩ = some (.int .i64 0) ∧ wr.cell? ⟨w.heap.size, 1, none⟩ = some (.int .i64 0) ∧ wr.cell? ⟨w.heap.size, 2, none⟩ = some (.int .i64 0) ∧ wr.cell? ⟨w.heap.size, 3, none⟩ = some (.string ⟨#[]⟩) ∧ wr.cell? ⟨w.heap.size, 4, none⟩ = some (.int .i64 (bW s.data.toList a (k - a))) ∧ (∀ j, wr.frozen? ⟨w.heap.size, j, none⟩ = false) ∧ Below w.heap.size w wr) (fun i _ => s.size - (intOf i).toNat)
 case atStart => exact ⟨a, by omega, by omega, by omega, rfl, HE.out, by rw [Nat.sub_self]; exact (by decide : (0 : Int) ≤ 2147483647), by simp [go_sem], by simp [go_sem], by simp [go_sem], by simp [go_sem], by rw [Nat.sub_self]; simp [go_sem, bW], by simp [go_sem], by go_grown⟩
 case round =>
  obtain ⟨k, hk1, hk2, hk3, rfl, hE, hv, c0, c1, c2, c3, c4, hf, hB⟩ := hrel; have HE2 := qd hE; clear hE; have hBs := World.block_lt_of_cell? wr _ c0; simp at hBs; have hv0 := (HM.out (k - a) (by omega)).1
  by_cases hlt : k < s.size
  · have hbk := cy s k hlt; cases h2 : dU (s[k].toNat : Int)
    · have HE3 : Hid (E = k) := HE2.out.trans (by rw [dj hlt (by unfold ez; rw [ck s k hlt, h2]; rfl)]; rfl); have H2 := qd h2; clear h2; have hki : (a : Int) ≤ k := by omega
      have hks : (k : Int) ≤ s.size := by omega
      obtain ⟨V, hV⟩ : ∃ V, bW s.data.toList a (k - a) = V := ⟨_, rfl⟩; rw [hV] at c4 hv hv0; have HV := qd hV; clear hV; go_wp2_with fail; refine (dF _ _ (by omega) hbk).mono ?_; rintro e w1 ⟨rfl, rfl⟩; rw [H2.out]; go_wp2_with fail; go_region; go_wp2
      try rw [Exit.noGoto_ret]
      refine bodyPost_ret (v := .tuple #[.agg #[.int .i64 2, .int .i64 0, .int .i64 0, .string (s.extract a k), .int .i64 V], .int .i64 (k : Nat), .int .i64 0]) (by simp [results, Tryz.results71, go_sem, *]) rfl ⟨⟨0, ?_⟩, ?_⟩
      · rw [HE3.out, qC, HV.out, if_neg (by omega), cx, kQ]
      · go_grown
    · have h48 := of_decide_eq_true h2; obtain ⟨h48a, h48b⟩ := h48; have HE3 : Hid (E = (bq (fun j => !ez s.data.toList j) (k + 1) (s.size - (k + 1))).getD s.size) := HE2.out.trans (by rw [cg hlt (by unfold ez; rw [ck s k hlt, h2]; rfl)]); have HV : Hid (bW s.data.toList a (k + 1 - a) = bW s.data.toList a (k - a) * 10 + ((s[k].toNat : Int) - 48)) := by
       unfold Hid; rw [show k + 1 - a = (k - a) + 1 by omega, bW, show a + (k - a) = k by omega, ck s k hlt]
      have H2 := qd h2; clear h2; generalize bW s.data.toList a (k - a) = V at *; go_wp2_with fail; refine (dF _ _ (by omega) hbk).mono ?_; rintro e w1 ⟨rfl, rfl⟩; rw [H2.out]; go_wp2_with fail; have hkE : k + 1 ≤ E := by rw [HE3.out]; exact gX (by omega)
      go_region; go_wp2
      · have hgt : 2147483647 < V * 10 + ((s[k].toNat : Int) - 48) := by assumption
        try rw [Exit.noGoto_ret]
        refine bodyPost_ret (v := .tuple #[cx 0 0 0 [] (V * 10 + ((s[k].toNat : Int) - 48)), .int .i64 0, .int .i64 4]) (by simp [results, Tryz.results71, go_sem, cx, *]) rfl ⟨⟨V * 10 + ((s[k].toNat : Int) - 48), ?_⟩, ?_⟩
        · rw [qC, if_pos (by have := HM.out (k + 1 - a) (by omega); rw [HV.out] at this; omega)]
        · go_grown
      · refine ⟨⟨k + 1, by omega, by omega, hkE, by go_num, HE3.out, by rw [HV.out]; assumption, by simp [go_sem, *], by simp [go_sem, *], by simp [go_sem, *], by simp [go_sem, *], by rw [HV.out]; simp [go_sem, *], by simp [go_sem, *], by go_grown⟩, by simp [intOf]; omega⟩
  · have hks' : k = s.size := by omega
    subst hks'; have HE3 : Hid (E = s.size) := HE2.out.trans (by rw [dk (by omega)]; rfl); have hki : (a : Int) ≤ s.size := by omega
    obtain ⟨V, hV⟩ : ∃ V, bW s.data.toList a (s.size - a) = V := ⟨_, rfl⟩; rw [hV] at c4 hv hv0; have HV := qd hV; clear hV; go_wp2_with fail; go_region; go_wp2
    try rw [Exit.noGoto_ret]
    refine bodyPost_ret (v := .tuple #[.agg #[.int .i64 2, .int .i64 0, .int .i64 0, .string (s.extract a s.size), .int .i64 V], .int .i64 (s.size : Nat), .int .i64 0]) (by simp [results, Tryz.results71, go_sem, *]) rfl ⟨⟨0, ?_⟩, ?_⟩
    · rw [HE3.out, qC, HV.out, if_neg (by omega), cx, kQ]
    · go_grown
theorem je {W w1 : World} (hb : Below W.heap.size W w1) : ∀ b o, b < W.heap.size → w1.cell? ⟨b, o, none⟩ = W.cell? ⟨b, o, none⟩ := fun b o h => hb.cell (p := ⟨b, o, none⟩) h
theorem mL (l : List UInt8) : ∀ f i e, ls l f i = some e → i + 1 ≤ e ∧ e ≤ l.length
 | 0, i, e, h => by simp [ls] at h
 | f + 1, i, e, h => by
   unfold ls at h
   split at h
   · simp at h
   · split at h
     · simp at h; omega
     · split at h
       · simp at h
       · split at h
         · split at h
           · simp at h
           · have := mL l f _ e h; omega
         · have := mL l f _ e h; omega
theorem ol {l : List UInt8} {a e : Nat} (h : mM l a = some e) : a + 2 ≤ e ∧ e ≤ l.length := by
 have := mL l _ _ e h; omega
theorem mh {l : List UInt8} {a n : Nat} {v : Int} (h : dQ l a = some (v, n)) : 3 ≤ n ∧ n ≤ 4 ∧ a + n ≤ l.length ∧ 0 ≤ v ∧ v ≤ 255 := by
 have hb : ∀ k, 0 ≤ bt l k ∧ bt l k ≤ 255 := fun k => by unfold bt; have := (l.getD k 0).toNat_lt; omega
 unfold dQ at h
 split at h
 · have := hb (a + 1); simp only [Option.some.injEq, Prod.mk.injEq] at h; omega
 · split at h
   · unfold sx at h
     (repeat' split at h) <;> simp at h <;> omega
   · simp at h
def az : List (List UInt8) := [[33, 33], [63, 63], [45, 62], [58, 58], [43, 43], [45, 45], [60, 60], [62, 62], [60, 61], [62, 61], [61, 61], [33, 61], [38, 38], [124, 124], [46, 46], [33], [63], [60], [62], [61], [43], [45], [42], [47], [37], [38], [124], [94], [126], [40], [41], [91], [93], [123], [125], [44], [59], [58], [46], [64], [35]]
def iI (l : List UInt8) (a : Nat) : Option Nat := bq (fun j => bL l a (az.getD j [])) 0 (41 - 0)
def qK (a : Nat) : Option Nat → Value
  | some j => .tuple #[cx 4 0 0 (az.getD j []) 0, .int .i64 (a + (az.getD j []).length : Nat), .int .i64 0]
  | none => .tuple #[cx 0 0 0 [] 0, .int .i64 0, .int .i64 2]
theorem gu : ∀ j, (az.getD j []).length ≤ 2 := by
  have h : ∀ j : Fin 41, (az.getD j.val []).length ≤ 2 := by decide +kernel
  intro j
  by_cases hj : j < 41
  · exact h ⟨j, hj⟩
  · rw [List.getD_eq_getElem?_getD, List.getElem?_eq_none (by show az.length ≤ j; rw [show az.length = 41 from by decide +kernel]; omega)]; simp
set_option maxRecDepth 20000 in
theorem mP (s : ByteArray) (a : Nat) (kb : Nat) (w : World) (ha : a < s.size) (hs : s.size ≤ 65535) (hk : ∀ i, i < 41 → w.cell? ⟨kb, i, none⟩ = some (.string ⟨(az.getD i []).toArray⟩))
   (hl : eD (s[a].toNat : Int) = false) (hd : dU (s[a].toNat : Int) = false) (h34 : ((s[a].toNat : Int) == 34) = false) (h39 : ((s[a].toNat : Int) == 39) = false) :
    Calls Tryz.prog 71 #[.string s, .int .i64 a, .slice (some ⟨kb, 0, none⟩) 41 41] w fun e w' => e = .returned (qK a (iI s.data.toList a)) ∧ Below w.heap.size w w' := by
  have hby := cy s a ha; have HL := qd hl; clear hl; have HD := qd hd; clear hd; have hkb := World.block_lt_of_cell? w _ (hk 0 (by omega)); simp at hkb; have HK := qd hk; clear hk; have ed : (s.extract a s.size).data.toList = s.data.toList.drop a := Lib.extract_to_end s a; have HP : Hid (∀ (j : Nat) (w0 : World), Calls Tryz.prog 120 #[.string (s.extract a s.size), .string ⟨(az.getD j []).toArray⟩] w0 fun e w' => e = .returned (.bool (bL s.data.toList a (az.getD j []))) ∧ w' = w0) := fun j w0 => by
    have := Tryz.strings_HasPrefix (s.extract a s.size) ⟨(az.getD j []).toArray⟩ w0; rw [ed] at this; exact this
  clear ed; obtain ⟨T, hT⟩ : ∃ T, iI s.data.toList a = T := ⟨_, rfl⟩; rw [hT]; have HT := qd hT; clear hT; go_enter Tryz.func71, Tryz.ntmps71; go_wp2; refine d7 0 rfl ?_; go_wp2_with fail; refine (dg _ _ (by omega) hby).mono ?_; rintro e w1 ⟨rfl, rfl⟩; rw [HL.out]; go_wp2_with fail; refine (dF _ _ (by omega) hby).mono ?_; rintro e w1 ⟨rfl, rfl⟩; rw [HD.out]; go_wp2_with fail
  go_loop [11, 30] (fun _ i => ∃ k : Nat, k ≤ 41 ∧ i = .int .i64 k ∧ T = bq (fun j => bL s.data.toList a (az.getD j [])) k (41 - k)) (fun _ i => 41 - (intOf i).toNat)
  case atStart => exact ⟨0, by omega, rfl, HT.out.symm⟩
  case round =>
    obtain ⟨k, hk1, rfl, hT2⟩ := hrel; have HT2 := qd hT2; clear hT2
    by_cases hlt : k < 41
    · have hc : (w.alloc (.cells #[.int .i64 0, .int .i64 0, .int .i64 0, .string ⟨#[]⟩, .int .i64 0] 31)).cell? ⟨kb, k, none⟩ = some (.string ⟨(az.getD k []).toArray⟩) :=
        ((br.alloc (Nat.le_refl _) _).cell (p := ⟨kb, k, none⟩) hkb).trans (HK.out k hlt)
      have hml := gu k; have HPk := qd (HP.out k); obtain ⟨M, hM⟩ : ∃ M, az.getD k [] = M := ⟨_, rfl⟩; cases hb : bL s.data.toList a (az.getD k [])
      · have HT3 : Hid (T = bq (fun j => bL s.data.toList a (az.getD j [])) (k + 1) (41 - (k + 1))) := HT2.out.trans (cg hlt hb); rw [hM] at hc HPk hml hb; have HB := qd hb; clear hb; have HMM := qd hM; clear hM; go_wp2_with fail; refine (HPk.out _).mono ?_; rintro e w1 ⟨rfl, hw1⟩; subst hw1; rw [HB.out]; go_wp2_with fail
        go_round
        case rel => exact ⟨k + 1, by omega, by go_num, HT3.out⟩
        case measure => simp [intOf]; omega
      · have HT3 : Hid (T = some k) := HT2.out.trans (dj hlt hb); rw [hM] at hc HPk hml hb; have HB := qd hb; clear hb; have HMM := qd hM; clear hM; go_wp2_with fail; refine (HPk.out _).mono ?_; rintro e w1 ⟨rfl, hw1⟩; subst hw1; rw [HB.out]; go_wp2_with fail; simp only [Exit.jump]; refine bodyPost_ret (v := .tuple #[.agg #[.int .i64 4, .int .i64 0, .int .i64 0, .string ⟨M.toArray⟩, .int .i64 0], .int .i64 ((a : Int) + M.length), .int .i64 0]) (by simp [results, Tryz.results71, go_sem]) rfl ⟨?_, by go_grown⟩; rw [HT3.out, qK, HMM.out, cx]; rfl
    · have hk41 : 41 ≤ k := by omega
      have HT3 : Hid (T = none) := HT2.out.trans (dk (by omega)); go_wp2_with fail; simp only [Exit.jump]; refine bodyPost_ret (v := .tuple #[cx 0 0 0 [] 0, .int .i64 0, .int .i64 2]) (by simp [results, Tryz.results71, go_sem, cx]) rfl ⟨?_, by go_grown⟩; rw [HT3.out, qK]
structure TR where
  e : Int
  kind : Int
  text : List UInt8
  n : Int
  len : Nat
def TR.bad (e : Int) : TR := ⟨e, 0, [], 0, 0⟩
def aI (l : List UInt8) (a : Nat) : TR :=
  if eD (bt l a) = true then (if 32 < aW (fD l) l a - a then .bad 5 else ⟨0, 1, jh l a (aW (fD l) l a - a), 0, aW (fD l) l a - a⟩)
  else if dU (bt l a) = true then (if 2147483647 < bW l a (aW (ez l) l a - a) then .bad 4 else ⟨0, 2, jh l a (aW (ez l) l a - a), bW l a (aW (ez l) l a - a), aW (ez l) l a - a⟩)
  else if bt l a = 34 then (match mM l a with
    | none => .bad 3
    | some e => if 202 + a < e then .bad 5 else ⟨0, 3, jh l (a + 1) (e - a - 2), 0, e - a⟩)
  else if bt l a = 39 then (match dQ l a with
    | none => .bad 3
    | some (v, n) => ⟨0, 2, jh l a n, v, n⟩)
  else match iI l a with
    | none => .bad 2
    | some j => ⟨0, 4, az.getD j [], 0, (az.getD j []).length⟩
def sK (r : TR) (a : Nat) (w : World) : Ending → World → Prop := fun e w' => (∃ (k n en : Int) (tx : ByteArray), e = .returned (.tuple #[.agg #[.int .i64 k, .int .i64 0, .int .i64 0, .string tx, .int .i64 n], .int .i64 en, .int .i64 r.e]) ∧ (r.e = 0 → k = r.kind ∧ n = r.n ∧ tx = ⟨r.text.toArray⟩ ∧ en = a + r.len)) ∧ Below w.heap.size w w'
theorem o5 (s : ByteArray) (a : Nat) (kb : Nat) (w : World) (ha : a < s.size) (hs : s.size ≤ 65535) (h34 : (s[a].toNat : Int) ≠ 34) (h39 : (s[a].toNat : Int) ≠ 39) (hk : ∀ i, i < 41 → w.cell? ⟨kb, i, none⟩ = some (.string ⟨(az.getD i []).toArray⟩)) :
    Calls Tryz.prog 71 #[.string s, .int .i64 a, .slice (some ⟨kb, 0, none⟩) 41 41] w (sK (aI s.data.toList a) a w) := by
  have hb := ck s a ha; have hlen : s.data.toList.length = s.size := rfl; unfold aI; rw [hb]; cases h1 : eD (s[a].toNat : Int)
  · rw [if_neg (by decide)]; cases h2 : dU (s[a].toNat : Int)
    · rw [if_neg (by decide)]; rw [if_neg h34, if_neg h39]; refine (mP s a kb w ha hs hk h1 h2 (by simpa using h34) (by simpa using h39)).mono ?_; rintro e w' ⟨rfl, hB⟩; refine ⟨?_, hB⟩; cases hT : iI s.data.toList a with
      | none => exact ⟨0, 0, 0, ⟨#[]⟩, rfl, fun h => absurd (show (2 : Int) = 0 from h) (by decide)⟩
      | some j => exact ⟨4, 0, _, _, rfl, fun _ => ⟨rfl, rfl, rfl, by push_cast; rfl⟩⟩
    · rw [if_pos rfl]; refine (oZ s a _ w ha hs h1 h2).mono ?_; rintro e w' ⟨⟨N, rfl⟩, hB⟩; refine ⟨?_, hB⟩; have hbd := de (ez s.data.toList) s.data.toList a (by omega); unfold qC
      split
      · exact ⟨0, N, 0, ⟨#[]⟩, rfl, fun h => absurd (show (4 : Int) = 0 from h) (by decide)⟩
      · exact ⟨2, _, _, _, rfl, fun _ => ⟨rfl, rfl, rfl, by show _ = _; simp only []; omega⟩⟩
  · rw [if_pos rfl]; refine (mO s a _ w ha hs h1).mono ?_; rintro e w' ⟨rfl, hB⟩; refine ⟨?_, hB⟩; have hbd := de (fD s.data.toList) s.data.toList a (by omega); unfold jL
    split
    · exact ⟨0, 0, 0, ⟨#[]⟩, rfl, fun h => absurd (show (5 : Int) = 0 from h) (by decide)⟩
    · exact ⟨1, 0, _, _, rfl, fun _ => ⟨rfl, rfl, rfl, by show _ = _; simp only []; omega⟩⟩
end Go.Proofs.YthkebhjaaikopaaGreatDoor.Lx

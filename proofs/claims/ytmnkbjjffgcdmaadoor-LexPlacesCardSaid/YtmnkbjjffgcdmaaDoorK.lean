/-
  Contracts of the reference's Next where a number, a character or a text begins. Conditions: a place inside the source, which has at most 65535 bytes.
-/
import Derived.Test.YtmnkbjjffgcdmaaDoorJ
namespace Go.Proofs.YtmnkbjjffgcdmaaDoor
open Go.ChangeShapes Go.WideShapes Go.ChangeAt Go.RowKit
def capM (x : Int) : Int := if x < 1099511627776 then x else 1099511627776
set_option maxHeartbeats 4000000 in
set_option maxRecDepth 20000 in
theorem rnext_num (s : ByteArray) (a : Nat) (w : World) (ha : a < s.size) (hs : s.size ≤ 65535) (hl : letF (s[a].toNat : Int) = false) (hd : digF (s[a].toNat : Int) = true) (R : TR) (HR : Hid (nextF s.data.toList a = R)) :
    Calls Tryd.prog 12 #[.string s, .int .i64 a] w (NextPost R w) := by
  have hby := byte_le s a ha
  have hlen : Hid (s.data.toList.length = s.size) := rfl
  have hbd := runEnd_bd (isD s.data.toList) s.data.toList a (by rw [hlen.out]; omega)
  have HE : Hid (runEnd (isD s.data.toList) s.data.toList a = (srch (fun j => !isD s.data.toList j) a (s.size - a)).getD s.size) := rfl
  have HM : Hid (∀ n, n ≤ runEnd (isD s.data.toList) s.data.toList a - a → 0 ≤ dval s.data.toList a n ∧ dval s.data.toList a n ≤ dval s.data.toList a (runEnd (isD s.data.toList) s.data.toList a - a)) := by
    refine fun n hn => dval_mono _ _ _ _ hn fun j h1 h2 => ?_
    have h3 := srch_all (p := fun j => !isD s.data.toList j) (i := a) (n := s.size - a) (e := runEnd (isD s.data.toList) s.data.toList a) (by rw [HE.out]; congr 1; omega) j h1 (by omega)
    simpa using h3
  have HN : Hid (nextF s.data.toList a = if 2147483647 < dval s.data.toList a (runEnd (isD s.data.toList) s.data.toList a - a) then .bad 4 else ⟨0, 2, sub s.data.toList a (runEnd (isD s.data.toList) s.data.toList a - a), dval s.data.toList a (runEnd (isD s.data.toList) s.data.toList a - a), runEnd (isD s.data.toList) s.data.toList a - a⟩) := by
    unfold Hid nextF
    rw [bt_eq s a ha, if_neg (by rw [hl]; decide), if_pos hd]
  have HL := Lib.hid hl; clear hl
  have HD := Lib.hid hd; clear hd
  rw [hlen.out] at hbd
  obtain ⟨hbd1, hbd2⟩ := hbd
  generalize runEnd (isD s.data.toList) s.data.toList a = E at *
  go_enter Tryd.func12, Tryd.ntmps12
  go_wp2_with fail
  refine (rletter_any _ _ (by omega) hby).mono ?_
  rintro e w1 ⟨rfl, rfl⟩
  rw [HL.out]
  go_wp2_with fail
  refine (rdigit_any _ _ (by omega) hby).mono ?_
  rintro e w1 ⟨rfl, rfl⟩
  rw [HD.out]
  go_wp2_with fail
  go_loop [8, 11] (fun i v => ∃ k : Nat, a + k ≤ s.size ∧ a + k ≤ E ∧ i = .int .i64 k ∧ v = .int .i64 (capM (dval s.data.toList a k)) ∧ E = (srch (fun j => !isD s.data.toList j) (a + k) (s.size - (a + k))).getD s.size) (fun i _ => s.size - (intOf i).toNat)
  case atStart => exact ⟨0, by omega, by omega, rfl, rfl, HE.out⟩
  case round =>
    obtain ⟨k, hk2, hkE, rfl, rfl, hE⟩ := hrel
    have HE2 := Lib.hid hE; clear hE
    have hv0 := (HM.out k (by omega)).1
    have hi2 : (a : Int) + k ≤ s.size := by omega
    have hi3 : (a : Int) ≤ (a : Int) + k := by omega
    have hV1 : 0 ≤ capM (dval s.data.toList a k) := by unfold capM; split <;> omega
    have hV2 : capM (dval s.data.toList a k) ≤ 1099511627776 := by unfold capM; split <;> omega
    have close : E = a + k → ∀ (w1 : World), Below w.heap.size w w1 → (2147483647 < capM (dval s.data.toList a k) → NextPost R w (.returned (.tuple #[tokV 0 0 0 [] 0, .int .i64 0, .int .i64 4])) w1) ∧ (¬ 2147483647 < capM (dval s.data.toList a k) → NextPost R w (.returned (.tuple #[.agg #[.int .i64 2, .int .i64 a, .int .i64 0, .string (s.extract a (a + k)), .int .i64 (capM (dval s.data.toList a k))], .int .i64 k, .int .i64 0])) w1) := by
      intro h w1 hB
      have hn : a + k - a = k := by omega
      constructor
      · intro hc
        rw [← HR.out, HN.out, h, hn, if_pos (by unfold capM at hc; split at hc <;> omega)]
        exact NextPost.bad (by decide) hB
      · intro hc
        rw [← HR.out, HN.out, h, hn, if_neg (by unfold capM at hc; split at hc <;> omega)]
        exact ⟨⟨2, a, 0, _, k, _, rfl, fun _ => rfl⟩, hB⟩
    have CL := Lib.hid close; clear close
    by_cases hlt : a + k < s.size
    · have hlti : (a : Int) + k < s.size := by omega
      have hbk := byte_le s (a + k) hlt
      cases h2 : digF (s[a + k].toNat : Int)
      · have HE3 : Hid (E = a + k) := HE2.out.trans (by rw [srch_hit hlt (by unfold isD; rw [bt_eq s (a + k) hlt, h2]; rfl)]; rfl)
        have H2 := Lib.hid h2; clear h2
        generalize capM (dval s.data.toList a k) = V at *
        by_cases hbig : 2147483647 < V
        · go_wp2_with fail
          refine (rdigit_any _ _ (by omega) hbk).mono ?_
          rintro e w1 ⟨rfl, rfl⟩
          rw [H2.out]
          go_wp2_with fail
          refine bodyPost_ret (v := .tuple #[tokV 0 0 0 [] 0, .int .i64 0, .int .i64 4]) (by simp [results, Tryd.results12, go_sem, tokV]) rfl ?_
          exact (CL.out HE3.out _ (by go_grown)).1 hbig
        · go_wp2_with fail
          refine (rdigit_any _ _ (by omega) hbk).mono ?_
          rintro e w1 ⟨rfl, rfl⟩
          rw [H2.out]
          go_wp2_with fail
          refine bodyPost_ret (v := .tuple #[.agg #[.int .i64 2, .int .i64 a, .int .i64 0, .string (s.extract a (a + k)), .int .i64 V], .int .i64 k, .int .i64 0]) (by simp [results, Tryd.results12, go_sem]) rfl ?_
          exact (CL.out HE3.out _ (by go_grown)).2 hbig
      · have h48 := of_decide_eq_true h2
        obtain ⟨h48a, h48b⟩ := h48
        have HE3 : Hid (E = (srch (fun j => !isD s.data.toList j) (a + k + 1) (s.size - (a + k + 1))).getD s.size) := HE2.out.trans (by rw [srch_miss hlt (by unfold isD; rw [bt_eq s (a + k) hlt, h2]; rfl)])
        have HV : Hid (dval s.data.toList a (k + 1) = dval s.data.toList a k * 10 + ((s[a + k].toNat : Int) - 48)) := by
          unfold Hid
          rw [dval, bt_eq s (a + k) hlt]
        have HC : Hid (capM (dval s.data.toList a (k + 1)) = min (10 * capM (dval s.data.toList a k) + ((s[a + k].toNat : Int) - 48)) 1099511627776) := by
          unfold Hid
          rw [HV.out]
          unfold capM
          split <;> split <;> omega
        have H2 := Lib.hid h2; clear h2
        generalize capM (dval s.data.toList a k) = V at *
        go_wp2_with fail
        refine (rdigit_any _ _ (by omega) hbk).mono ?_
        rintro e w1 ⟨rfl, rfl⟩
        rw [H2.out]
        go_wp2_with fail
        go_round
        case rel => exact ⟨k + 1, by omega, by rw [HE3.out]; exact srch_ge (by omega), by go_num, by rw [HC.out], HE3.out⟩
        case measure => simp [intOf]; omega
    · have HE3 : Hid (E = a + k) := HE2.out.trans (by rw [srch_end (by omega)]; show s.size = a + k; omega)
      generalize capM (dval s.data.toList a k) = V at *
      by_cases hbig : 2147483647 < V
      · go_wp2_with fail
        refine bodyPost_ret (v := .tuple #[tokV 0 0 0 [] 0, .int .i64 0, .int .i64 4]) (by simp [results, Tryd.results12, go_sem, tokV]) rfl ?_
        exact (CL.out HE3.out _ (by go_grown)).1 hbig
      · go_wp2_with fail
        refine bodyPost_ret (v := .tuple #[.agg #[.int .i64 2, .int .i64 a, .int .i64 0, .string (s.extract a (a + k)), .int .i64 V], .int .i64 k, .int .i64 0]) (by simp [results, Tryd.results12, go_sem]) rfl ?_
        exact (CL.out HE3.out _ (by go_grown)).2 hbig
set_option maxHeartbeats 4000000 in
set_option maxRecDepth 20000 in
theorem rnext_char (s : ByteArray) (a : Nat) (w : World) (ha : a < s.size) (hs : s.size ≤ 65535) (hc : (s[a].toNat : Int) = 39) (R : TR) (HR : Hid (nextF s.data.toList a = R)) :
    Calls Tryd.prog 12 #[.string s, .int .i64 a] w (NextPost R w) := by
  have hby := byte_le s a ha
  have hl : letF (s[a].toNat : Int) = false := by rw [hc]; decide
  have hd : digF (s[a].toNat : Int) = false := by rw [hc]; decide
  have hc2 : ((s[a].toNat : Int) == 39) = true := by rw [hc]; rfl
  have HN : Hid (nextF s.data.toList a = match charF s.data.toList a with
    | none => .bad 3
    | some (v, n) => ⟨0, 2, sub s.data.toList a n, v, n⟩) := by
    unfold Hid nextF
    rw [bt_eq s a ha, hl, hd, if_neg (by decide), if_neg (by decide), if_neg (by rw [hc]; decide), if_pos hc]
    rfl
  have CH := Lib.hid (char_any s a)
  have CB := fun v n => @charF_bd s.data.toList a n v
  rw [show s.data.toList.length = s.size from rfl] at CB
  clear hc
  have HL := Lib.hid hl; clear hl
  have HD := Lib.hid hd; clear hd
  generalize charF s.data.toList a = T at *
  cases T with
  | none =>
    clear CB
    go_enter Tryd.func12, Tryd.ntmps12
    go_wp2_with fail
    refine (rletter_any _ _ (by omega) hby).mono ?_
    rintro e w1 ⟨rfl, rfl⟩
    rw [HL.out]
    go_wp2_with fail
    refine (rdigit_any _ _ (by omega) hby).mono ?_
    rintro e w1 ⟨rfl, rfl⟩
    rw [HD.out]
    go_wp2_with fail
    refine (CH.out _ ha hs).mono ?_
    rintro e w1 ⟨rfl, rfl⟩
    simp only [chV]
    go_wp2_with fail
    refine bodyPost_ret (v := .tuple #[tokV 0 0 0 [] 0, .int .i64 0, .int .i64 3]) (by simp [results, Tryd.results12, go_sem, tokV]) rfl ?_
    rw [← HR.out, HN.out]
    exact NextPost.bad (by decide) (by go_grown)
  | some p =>
    obtain ⟨v, n⟩ := p
    obtain ⟨hn1, hn2, hn3, hv1, hv2⟩ := CB v n rfl
    clear CB
    have hi1 : (a : Int) + n ≤ s.size := by omega
    have hi2 : (a : Int) ≤ (a : Int) + n := by omega
    have hi3 : ((n : Int) == 0) = false := by rw [beq_eq_false_iff_ne]; omega
    go_enter Tryd.func12, Tryd.ntmps12
    go_wp2_with fail
    refine (rletter_any _ _ (by omega) hby).mono ?_
    rintro e w1 ⟨rfl, rfl⟩
    rw [HL.out]
    go_wp2_with fail
    refine (rdigit_any _ _ (by omega) hby).mono ?_
    rintro e w1 ⟨rfl, rfl⟩
    rw [HD.out]
    go_wp2_with fail
    refine (CH.out _ ha hs).mono ?_
    rintro e w1 ⟨rfl, rfl⟩
    simp only [chV]
    go_wp2_with fail
    refine bodyPost_ret (v := .tuple #[.agg #[.int .i64 2, .int .i64 a, .int .i64 0, .string (s.extract a (a + n)), .int .i64 v], .int .i64 n, .int .i64 0]) (by simp [results, Tryd.results12, go_sem]) rfl ?_
    rw [← HR.out, HN.out]
    exact ⟨⟨2, a, 0, v, n, _, rfl, fun _ => rfl⟩, by go_grown⟩
set_option maxHeartbeats 4000000 in
set_option maxRecDepth 20000 in
theorem rnext_text (s : ByteArray) (a : Nat) (w : World) (ha : a < s.size) (hs : s.size ≤ 65535) (hc : (s[a].toNat : Int) = 34) (R : TR) (HR : Hid (nextF s.data.toList a = R)) :
    Calls Tryd.prog 12 #[.string s, .int .i64 a] w (NextPost R w) := by
  have hby := byte_le s a ha
  have hl : letF (s[a].toNat : Int) = false := by rw [hc]; decide
  have hd : digF (s[a].toNat : Int) = false := by rw [hc]; decide
  have hc2 : ((s[a].toNat : Int) == 39) = false := by rw [hc]; rfl
  have hc3 : ((s[a].toNat : Int) == 34) = true := by rw [hc]; rfl
  have HN : Hid (nextF s.data.toList a = match txtF s.data.toList a with
    | none => .bad 3
    | some e => if 202 + a < e then .bad 5 else ⟨0, 3, sub s.data.toList (a + 1) (e - a - 2), 0, e - a⟩) := by
    unfold Hid nextF
    rw [bt_eq s a ha, hl, hd, if_neg (by decide), if_neg (by decide), if_pos hc]
    rfl
  have TX := Lib.hid (rquoted_any s a)
  have TB := fun e => @txtF_bd s.data.toList a e
  rw [show s.data.toList.length = s.size from rfl] at TB
  clear hc
  have HL := Lib.hid hl; clear hl
  have HD := Lib.hid hd; clear hd
  generalize txtF s.data.toList a = T at *
  cases T with
  | none =>
    clear TB
    go_enter Tryd.func12, Tryd.ntmps12
    go_wp2_with fail
    refine (rletter_any _ _ (by omega) hby).mono ?_
    rintro e w1 ⟨rfl, rfl⟩
    rw [HL.out]
    go_wp2_with fail
    refine (rdigit_any _ _ (by omega) hby).mono ?_
    rintro e w1 ⟨rfl, rfl⟩
    rw [HD.out]
    go_wp2_with fail
    refine (TX.out _ ha hs).mono ?_
    rintro e w1 ⟨rfl, rfl⟩
    simp only [txV]
    go_wp2_with fail
    refine bodyPost_ret (v := .tuple #[tokV 0 0 0 [] 0, .int .i64 0, .int .i64 3]) (by simp [results, Tryd.results12, go_sem, tokV]) rfl ?_
    rw [← HR.out, HN.out]
    exact NextPost.bad (by decide) (by go_grown)
  | some e0 =>
    obtain ⟨hn1, hn2⟩ := TB e0 rfl
    clear TB
    obtain ⟨n, rfl⟩ : ∃ n : Nat, e0 = a + n := ⟨e0 - a, by omega⟩
    have he0 : ((a + n : Nat) : Int) - a = n := by omega
    have hi0 : (a : Int) + 1 ≤ (a : Int) + n - 1 := by omega
    have hi1 : (a : Int) + n - 1 ≤ s.size := by omega
    have hi3 : ((n : Int) == 0) = false := by rw [beq_eq_false_iff_ne]; omega
    have hi4 : 2 ≤ n := by omega
    have hi5 : n ≤ 65535 := by omega
    by_cases hbig : 200 < (n : Int) - 2
    · go_enter Tryd.func12, Tryd.ntmps12
      go_wp2_with fail
      refine (rletter_any _ _ (by omega) hby).mono ?_
      rintro e w1 ⟨rfl, rfl⟩
      rw [HL.out]
      go_wp2_with fail
      refine (rdigit_any _ _ (by omega) hby).mono ?_
      rintro e w1 ⟨rfl, rfl⟩
      rw [HD.out]
      go_wp2_with fail
      refine (TX.out _ ha hs).mono ?_
      rintro e w1 ⟨rfl, rfl⟩
      simp only [txV]
      rw [he0]
      go_wp2_with fail
      refine bodyPost_ret (v := .tuple #[tokV 0 0 0 [] 0, .int .i64 0, .int .i64 5]) (by simp [results, Tryd.results12, go_sem, tokV]) rfl ?_
      rw [← HR.out, HN.out]
      rw [if_pos (by omega)]
      exact NextPost.bad (by decide) (by go_grown)
    · go_enter Tryd.func12, Tryd.ntmps12
      go_wp2_with fail
      refine (rletter_any _ _ (by omega) hby).mono ?_
      rintro e w1 ⟨rfl, rfl⟩
      rw [HL.out]
      go_wp2_with fail
      refine (rdigit_any _ _ (by omega) hby).mono ?_
      rintro e w1 ⟨rfl, rfl⟩
      rw [HD.out]
      go_wp2_with fail
      refine (TX.out _ ha hs).mono ?_
      rintro e w1 ⟨rfl, rfl⟩
      simp only [txV]
      rw [he0]
      go_wp2_with fail
      refine bodyPost_ret (v := .tuple #[.agg #[.int .i64 3, .int .i64 a, .int .i64 0, .string (s.extract (a + 1) (a + n - 1)), .int .i64 0], .int .i64 n, .int .i64 0]) (by simp [results, Tryd.results12, go_sem]) rfl ?_
      rw [← HR.out, HN.out]
      rw [if_neg (by omega)]
      refine ⟨⟨3, a, 0, 0, n, _, rfl, fun _ => ?_⟩, by go_grown⟩
      show (n : Int) = ((a + n - a : Nat) : Int)
      omega
end Go.Proofs.YtmnkbjjffgcdmaaDoor

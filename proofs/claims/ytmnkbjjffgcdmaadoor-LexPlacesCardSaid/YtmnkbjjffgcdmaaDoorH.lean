/-
  Contract of lex's token where a text or a number in quotes begins. Conditions: the source has at most 65535 bytes; the variable that Cut's callees read is there.
-/
import Derived.Test.YtmnkbjjffgcdmaaDoorG
namespace Go.Proofs.YtmnkbjjffgcdmaaDoor
open Go.ChangeShapes Go.WideShapes Go.ChangeAt Go.RowKit
theorem bcell {W w1 : World} (hb : Below W.heap.size W w1) : ∀ b o, b < W.heap.size → w1.cell? ⟨b, o, none⟩ = W.cell? ⟨b, o, none⟩ := fun b o h => hb.cell (p := ⟨b, o, none⟩) h
theorem txt_bd (l : List UInt8) : ∀ f i e, txt l f i = some e → i + 1 ≤ e ∧ e ≤ l.length
  | 0, i, e, h => by simp [txt] at h
  | f + 1, i, e, h => by
    unfold txt at h
    split at h
    · simp at h
    · split at h
      · simp at h; omega
      · split at h
        · simp at h
        · split at h
          · split at h
            · simp at h
            · have := txt_bd l f _ e h; omega
          · have := txt_bd l f _ e h; omega
theorem txtF_bd {l : List UInt8} {a e : Nat} (h : txtF l a = some e) : a + 2 ≤ e ∧ e ≤ l.length := by
  have := txt_bd l _ _ e h; omega
theorem charF_bd {l : List UInt8} {a n : Nat} {v : Int} (h : charF l a = some (v, n)) : 3 ≤ n ∧ n ≤ 4 ∧ a + n ≤ l.length ∧ 0 ≤ v ∧ v ≤ 255 := by
  have hb : ∀ k, 0 ≤ bt l k ∧ bt l k ≤ 255 := fun k => by unfold bt; have := (l.getD k 0).toNat_lt; omega
  unfold charF at h
  split at h
  · have := hb (a + 1)
    simp only [Option.some.injEq, Prod.mk.injEq] at h
    omega
  · split at h
    · unfold escF at h
      (repeat' split at h) <;> simp at h <;> omega
    · simp at h
theorem charF_drop (l : List UInt8) (a : Nat) (ha : a ≤ l.length) : charF (l.drop a) 0 = charF l a := by
  unfold charF
  simp only [bt_drop, List.length_drop, Nat.zero_add]
  congr 1
  · simp only [show (2 < l.length - a) = (a + 2 < l.length) by rw [eq_iff_iff]; omega]
  · simp only [show (3 < l.length - a) = (a + 3 < l.length) by rw [eq_iff_iff]; omega]
/-- What a text's token is. -/
def textV (l : List UInt8) (a : Nat) : Option Nat → Value
  | some e => if 202 + a < e then .tuple #[tokV 0 0 0 [] 0, .int .i64 0, .int .i64 5] else .tuple #[tokV 3 0 0 (sub l (a + 1) (e - a - 2)) 0, .int .i64 e, .int .i64 0]
  | none => .tuple #[tokV 0 0 0 [] 0, .int .i64 0, .int .i64 3]
def quoteV (l : List UInt8) (a : Nat) : Option (Int × Nat) → Value
  | some (v, n) => .tuple #[tokV 2 0 0 (sub l a n) v, .int .i64 (a + n : Nat), .int .i64 0]
  | none => .tuple #[tokV 0 0 0 [] 0, .int .i64 0, .int .i64 3]
set_option maxHeartbeats 4000000 in
set_option maxRecDepth 20000 in
theorem token_text (s : ByteArray) (a : Nat) (K : Value) (w : World) (ha : a < s.size) (hs : s.size ≤ 65535) (hc : (s[a].toNat : Int) = 34) :
    Calls Tryd.prog 10 #[.string s, .int .i64 a, K] w fun e w' => e = .returned (textV s.data.toList a (txtF s.data.toList a)) ∧ Below w.heap.size w w' := by
  have hby := byte_le s a ha
  have HL := Lib.hid (show letF (s[a].toNat : Int) = false by rw [hc]; decide)
  have HD := Lib.hid (show digF (s[a].toNat : Int) = false by rw [hc]; decide)
  have h34 : ((s[a].toNat : Int) == 34) = true := by rw [hc]; rfl
  clear hc
  have TX := Lib.hid (textual_any s a)
  have TB := fun e => @txtF_bd s.data.toList a e
  rw [show s.data.toList.length = s.size from rfl] at TB
  generalize txtF s.data.toList a = T at *
  cases T with
  | none =>
    clear TB
    go_enter Tryd.func10, Tryd.ntmps10
    go_wp2
    refine wp_scope_once 2 rfl ?_
    go_wp2_with fail
    refine (letter_any _ _ (by omega) hby).mono ?_
    rintro e w1 ⟨rfl, rfl⟩
    rw [HL.out]
    go_wp2_with fail
    refine (digit_any _ _ (by omega) hby).mono ?_
    rintro e w1 ⟨rfl, rfl⟩
    rw [HD.out]
    go_wp2_with fail
    go_step3
    refine ⟨rfl, ?_⟩
    go_wp2_with fail
    refine (TX.out _ ha hs).mono ?_
    rintro e w1 ⟨rfl, rfl⟩
    simp only [txR]
    go_wp2_with fail
    try rw [Exit.noGoto_ret]
    refine bodyPost_ret (v := textV s.data.toList a none) (by simp [results, Tryd.results10, go_sem, textV, tokV]) rfl ⟨rfl, by go_grown⟩
  | some e0 =>
    obtain ⟨tb1, tb2⟩ := TB e0 rfl
    clear TB
    by_cases hbig : 202 + a < e0
    · go_enter Tryd.func10, Tryd.ntmps10
      go_wp2
      refine wp_scope_once 2 rfl ?_
      go_wp2_with fail
      refine (letter_any _ _ (by omega) hby).mono ?_
      rintro e w1 ⟨rfl, rfl⟩
      rw [HL.out]
      go_wp2_with fail
      refine (digit_any _ _ (by omega) hby).mono ?_
      rintro e w1 ⟨rfl, rfl⟩
      rw [HD.out]
      go_wp2_with fail
      go_step3
      refine ⟨rfl, ?_⟩
      go_wp2_with fail
      refine (TX.out _ ha hs).mono ?_
      rintro e w1 ⟨rfl, rfl⟩
      simp only [txR]
      rw [if_pos hbig]
      go_wp2_with fail
      try rw [Exit.noGoto_ret]
      refine bodyPost_ret (v := .tuple #[tokV 0 0 0 [] 0, .int .i64 0, .int .i64 5]) (by simp [results, Tryd.results10, go_sem, tokV]) rfl ⟨by rw [textV, if_pos hbig], by go_grown⟩
    · have hi1 : (a : Int) + 1 ≤ (e0 : Int) - 1 := by omega
      have hi2 : (e0 : Int) - 1 ≤ s.size := by omega
      have hi3 : (0 : Int) ≤ (e0 : Int) - 1 := by omega
      go_enter Tryd.func10, Tryd.ntmps10
      go_wp2
      refine wp_scope_once 2 rfl ?_
      go_wp2_with fail
      refine (letter_any _ _ (by omega) hby).mono ?_
      rintro e w1 ⟨rfl, rfl⟩
      rw [HL.out]
      go_wp2_with fail
      refine (digit_any _ _ (by omega) hby).mono ?_
      rintro e w1 ⟨rfl, rfl⟩
      rw [HD.out]
      go_wp2_with fail
      go_step3
      refine ⟨rfl, ?_⟩
      go_wp2_with fail
      refine (TX.out _ ha hs).mono ?_
      rintro e w1 ⟨rfl, rfl⟩
      simp only [txR]
      rw [if_neg hbig]
      go_wp2_with fail
      try rw [Exit.noGoto_ret]
      refine bodyPost_ret (v := .tuple #[.agg #[.int .i64 3, .int .i64 0, .int .i64 0, .string (s.extract (a + 1) (e0 - 1)), .int .i64 0], .int .i64 e0, .int .i64 0]) (by simp [results, Tryd.results10, go_sem]) rfl ⟨?_, by go_grown⟩
      rw [textV, if_neg hbig, tokV, ext_ba, show e0 - 1 - (a + 1) = e0 - a - 2 by omega]
set_option maxHeartbeats 4000000 in
set_option maxRecDepth 20000 in
theorem token_char (s : ByteArray) (a : Nat) (K : Value) (m : Int) (w : World) (ha : a < s.size) (hs : s.size ≤ 65535) (hm : w.cell? ⟨2, 0, none⟩ = some (.int .i64 m)) (hc : (s[a].toNat : Int) = 39) :
    Calls Tryd.prog 10 #[.string s, .int .i64 a, K] w fun e w' => e = .returned (quoteV s.data.toList a (charF s.data.toList a)) ∧ Below w.heap.size w w' := by
  have hby := byte_le s a ha
  have HL := Lib.hid (show letF (s[a].toNat : Int) = false by rw [hc]; decide)
  have HD := Lib.hid (show digF (s[a].toNat : Int) = false by rw [hc]; decide)
  have h34 : ((s[a].toNat : Int) == 34) = false := by rw [hc]; rfl
  have h39 : ((s[a].toNat : Int) == 39) = true := by rw [hc]; rfl
  have hm2 := World.block_lt_of_cell? w _ hm
  simp at hm2
  have HM := Lib.hid hm; clear hm
  have ed : (s.extract a s.size).data.toList = s.data.toList.drop a := Lib.extract_to_end s a
  have QX : Hid (∀ w0 : World, w0.cell? ⟨2, 0, none⟩ = some (.int .i64 m) → Calls Tryd.prog 22 #[.string (s.extract a s.size)] w0 fun e w' => e = .returned (chV (charF s.data.toList a)) ∧ Below w0.heap.size w0 w') := fun w0 h0 => by
    have := quoted_any (s.extract a s.size) m w0 (by simp; omega) (by simp; omega) h0 (by rw [ed, bt_drop, bt_eq s (a + 0) (by omega)]; exact hc)
    rw [ed, charF_drop _ _ (by have : s.data.toList.length = s.size := rfl; omega)] at this
    exact this
  clear hc ed
  have TB := fun v n => @charF_bd s.data.toList a n v
  rw [show s.data.toList.length = s.size from rfl] at TB
  generalize charF s.data.toList a = T at *
  have hu : (Below w.heap.size w (w.alloc (.cells #[.int .i64 0, .int .i64 0, .int .i64 0, .string ⟨#[]⟩, .int .i64 0] 27))) := (Below.refl _ _).alloc (Nat.le_refl _) _
  have HM2 := Lib.hid ((hu.cell (p := ⟨2, 0, none⟩) hm2).trans HM.out)
  clear hu
  cases T with
  | none =>
    clear TB
    go_enter Tryd.func10, Tryd.ntmps10
    go_wp2
    refine wp_scope_once 3 rfl ?_
    go_wp2_with fail
    refine (letter_any _ _ (by omega) hby).mono ?_
    rintro e w1 ⟨rfl, rfl⟩
    rw [HL.out]
    go_wp2_with fail
    refine (digit_any _ _ (by omega) hby).mono ?_
    rintro e w1 ⟨rfl, rfl⟩
    rw [HD.out]
    go_wp2_with fail
    go_step3
    refine ⟨rfl, ?_⟩
    go_wp2_with fail
    refine (QX.out _ HM2.out).mono ?_
    rintro e w1 ⟨rfl, hb1⟩
    have hc1 := bcell hb1
    have hf1 : ∀ b o, b < w.heap.size + 1 → w1.frozen? ⟨b, o, none⟩ = (w.alloc (.cells #[.int .i64 0, .int .i64 0, .int .i64 0, .string ⟨#[]⟩, .int .i64 0] 27)).frozen? ⟨b, o, none⟩ := fun b o h => hb1.frozen (p := ⟨b, o, none⟩) (by simpa using h)
    have hz1 : w.heap.size < w1.heap.size := by have := hb1.size; simp at this; omega
    have B1 : Below w.heap.size w w1 := ((Below.refl _ _).alloc (Nat.le_refl _) _).trans (hb1.mono (by simp))
    have c0 : w1.cell? ⟨w.heap.size, 0, none⟩ = some (.int .i64 0) := by rw [hc1 _ _ (by simp)]; simp [go_sem]
    have c1 : w1.cell? ⟨w.heap.size, 1, none⟩ = some (.int .i64 0) := by rw [hc1 _ _ (by simp)]; simp [go_sem]
    have c2 : w1.cell? ⟨w.heap.size, 2, none⟩ = some (.int .i64 0) := by rw [hc1 _ _ (by simp)]; simp [go_sem]
    have c3 : w1.cell? ⟨w.heap.size, 3, none⟩ = some (.string ⟨#[]⟩) := by rw [hc1 _ _ (by simp)]; simp [go_sem]
    have c4 : w1.cell? ⟨w.heap.size, 4, none⟩ = some (.int .i64 0) := by rw [hc1 _ _ (by simp)]; simp [go_sem]
    have f0 : ∀ o, w1.frozen? ⟨w.heap.size, o, none⟩ = false := fun o => by rw [hf1 _ _ (by simp)]; simp [go_sem]
    clear hc1 hf1 hb1
    have hsz := B1.size
    simp only [chV]
    go_wp2_with fail
    try rw [Exit.noGoto_ret]
    refine bodyPost_ret (v := quoteV s.data.toList a none) (by simp [results, Tryd.results10, go_sem, quoteV, tokV, *]) rfl ⟨rfl, by go_grown⟩
  | some x =>
    obtain ⟨v, n⟩ := x
    obtain ⟨tb1, tb2, tb3, tb4, tb5⟩ := TB v n rfl
    clear TB
    have hi1 : (a : Int) ≤ (a : Int) + n := by omega
    have hi2 : (a : Int) + n ≤ s.size := by omega
    have hn0 : ((n : Int) == 0) = false := by simp; omega
    go_enter Tryd.func10, Tryd.ntmps10
    go_wp2
    refine wp_scope_once 3 rfl ?_
    go_wp2_with fail
    refine (letter_any _ _ (by omega) hby).mono ?_
    rintro e w1 ⟨rfl, rfl⟩
    rw [HL.out]
    go_wp2_with fail
    refine (digit_any _ _ (by omega) hby).mono ?_
    rintro e w1 ⟨rfl, rfl⟩
    rw [HD.out]
    go_wp2_with fail
    go_step3
    refine ⟨rfl, ?_⟩
    go_wp2_with fail
    refine (QX.out _ HM2.out).mono ?_
    rintro e w1 ⟨rfl, hb1⟩
    have hc1 := bcell hb1
    have hf1 : ∀ b o, b < w.heap.size + 1 → w1.frozen? ⟨b, o, none⟩ = (w.alloc (.cells #[.int .i64 0, .int .i64 0, .int .i64 0, .string ⟨#[]⟩, .int .i64 0] 27)).frozen? ⟨b, o, none⟩ := fun b o h => hb1.frozen (p := ⟨b, o, none⟩) (by simpa using h)
    have hz1 : w.heap.size < w1.heap.size := by have := hb1.size; simp at this; omega
    have B1 : Below w.heap.size w w1 := ((Below.refl _ _).alloc (Nat.le_refl _) _).trans (hb1.mono (by simp))
    have c0 : w1.cell? ⟨w.heap.size, 0, none⟩ = some (.int .i64 0) := by rw [hc1 _ _ (by simp)]; simp [go_sem]
    have c1 : w1.cell? ⟨w.heap.size, 1, none⟩ = some (.int .i64 0) := by rw [hc1 _ _ (by simp)]; simp [go_sem]
    have c2 : w1.cell? ⟨w.heap.size, 2, none⟩ = some (.int .i64 0) := by rw [hc1 _ _ (by simp)]; simp [go_sem]
    have c3 : w1.cell? ⟨w.heap.size, 3, none⟩ = some (.string ⟨#[]⟩) := by rw [hc1 _ _ (by simp)]; simp [go_sem]
    have c4 : w1.cell? ⟨w.heap.size, 4, none⟩ = some (.int .i64 0) := by rw [hc1 _ _ (by simp)]; simp [go_sem]
    have f0 : ∀ o, w1.frozen? ⟨w.heap.size, o, none⟩ = false := fun o => by rw [hf1 _ _ (by simp)]; simp [go_sem]
    clear hc1 hf1 hb1
    have hsz := B1.size
    simp only [chV]
    go_wp2_with fail
    go_region
    go_wp2
    try rw [Exit.noGoto_ret]
    refine bodyPost_ret (v := .tuple #[.agg #[.int .i64 2, .int .i64 0, .int .i64 0, .string (s.extract a (a + n)), .int .i64 v], .int .i64 ((a : Int) + n), .int .i64 0]) (by simp [results, Tryd.results10, go_sem, *]) rfl ⟨?_, by go_grown⟩
    rw [quoteV, tokV, ext_ba, Nat.add_sub_cancel_left]
    rfl
end Go.Proofs.YtmnkbjjffgcdmaaDoor

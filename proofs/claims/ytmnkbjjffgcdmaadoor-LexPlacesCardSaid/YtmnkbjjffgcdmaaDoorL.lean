/-
  Contract of the reference's Next. Conditions: a place inside the source, which has at most 65535 bytes.
-/
import Derived.Test.YtmnkbjjffgcdmaaDoorK
namespace Go.Proofs.YtmnkbjjffgcdmaaDoor
open Go.ChangeShapes Go.WideShapes Go.ChangeAt Go.RowKit
def marksA : Array Value := (marksL.map fun m => Value.string ⟨m.toArray⟩).toArray
def MarksPost (w : World) : Ending → World → Prop := fun e w' => ∃ kb : Nat, e = .returned (.slice (some ⟨kb, 0, none⟩) 41 41) ∧ w.heap.size = kb ∧ kb < w'.heap.size ∧ (∀ i, i < 41 → w'.cell? ⟨kb, i, none⟩ = some (.string ⟨(marksL.getD i []).toArray⟩)) ∧ Below w.heap.size w w'
theorem marks_cell (w : World) (i : Nat) (h : i < 41) : (w.alloc (.cells marksA 9)).cell? ⟨w.heap.size, i, none⟩ = some (.string ⟨(marksL.getD i []).toArray⟩) := by
  have hl : marksL.length = 41 := by decide +kernel
  rw [World.cell?_alloc_new]
  unfold marksA
  simp [hl, h]
set_option maxHeartbeats 4000000 in
set_option maxRecDepth 20000 in
theorem marks_any (w : World) : Calls Tryd.prog 28 #[] w (MarksPost w) := by
  go_enter Tryd.func28, Tryd.ntmps28
  go_wp2
  refine bodyPost_ret (v := .slice (some ⟨w.heap.size, 0, none⟩) 41 41) (by simp [results, Tryd.results28, go_sem]) rfl ⟨w.heap.size, rfl, rfl, by simp [go_sem], fun i h => marks_cell w i h, by go_grown⟩
set_option maxHeartbeats 4000000 in
set_option maxRecDepth 20000 in
theorem rnext_mark (s : ByteArray) (a : Nat) (w : World) (ha : a < s.size) (hs : s.size ≤ 65535) (hl : letF (s[a].toNat : Int) = false) (hd : digF (s[a].toNat : Int) = false) (h34 : ((s[a].toNat : Int) == 34) = false) (h39 : ((s[a].toNat : Int) == 39) = false) (R : TR) (HR : Hid (nextF s.data.toList a = R)) :
    Calls Tryd.prog 12 #[.string s, .int .i64 a] w (NextPost R w) := by
  have hby := byte_le s a ha
  have hHN : nextF s.data.toList a = match markJ s.data.toList a with
    | none => .bad 2
    | some j => ⟨0, 4, marksL.getD j [], 0, (marksL.getD j []).length⟩ := by
    unfold nextF
    rw [bt_eq s a ha, hl, hd, if_neg (by decide), if_neg (by decide), if_neg (by simpa using h34), if_neg (by simpa using h39)]
    rfl
  rw [hHN] at HR
  clear hHN
  have HL := Lib.hid hl; clear hl
  have HD := Lib.hid hd; clear hd
  have HP : Hid (∀ (j : Nat) (w0 : World), Calls Tryd.prog 13 #[.string s, .int .i64 a, .string ⟨(marksL.getD j []).toArray⟩] w0 fun e w' => e = .returned (.bool (begF s.data.toList a (marksL.getD j []))) ∧ w0 = w') := by
    intro j w0
    have hj := marks_len j
    exact begins_any s a ⟨(marksL.getD j []).toArray⟩ w0 (by omega) hs (by show (marksL.getD j []).length ≤ 100; omega)
  obtain ⟨T, hT⟩ : ∃ T, markJ s.data.toList a = T := ⟨_, rfl⟩
  rw [hT] at HR
  have HT := Lib.hid hT; clear hT
  go_enter Tryd.func12, Tryd.ntmps12
  go_wp2_with fail
  refine (rletter_any _ _ (by omega) hby).mono ?_
  rintro e w1 ⟨rfl, rfl⟩
  rw [HL.out]
  go_wp2_with fail
  refine (rdigit_any _ _ (by omega) hby).mono ?_
  rintro e w1 ⟨rfl, rfl⟩
  rw [HD.out]
  go_wp2_with fail
  refine (marks_any _).mono ?_
  rintro e w1 ⟨kb, rfl, hkb0, hkb, hk, hB0⟩
  have HK := Lib.hid hk; clear hk
  have h0 : w.heap.size < (w.alloc (.cells #[.int .i64 0, .int .i64 0, .int .i64 0, .string ⟨#[]⟩, .int .i64 0] 27)).heap.size := by simp [go_sem]
  have hs1 : w.heap.size < w1.heap.size := by omega
  have hB1 : Below w.heap.size w w1 := ((Below.refl _ w).alloc (Nat.le_refl _) _).trans (hB0.mono (Nat.le_of_lt h0))
  have c0 : w1.cell? ⟨w.heap.size, 0, none⟩ = some (.int .i64 0) := (bcell hB0 _ _ h0).trans (by simp [go_sem])
  have c1 : w1.cell? ⟨w.heap.size, 1, none⟩ = some (.int .i64 0) := (bcell hB0 _ _ h0).trans (by simp [go_sem])
  have c2 : w1.cell? ⟨w.heap.size, 2, none⟩ = some (.int .i64 0) := (bcell hB0 _ _ h0).trans (by simp [go_sem])
  have c3 : w1.cell? ⟨w.heap.size, 3, none⟩ = some (.string ⟨#[]⟩) := (bcell hB0 _ _ h0).trans (by simp [go_sem])
  have c4 : w1.cell? ⟨w.heap.size, 4, none⟩ = some (.int .i64 0) := (bcell hB0 _ _ h0).trans (by simp [go_sem])
  have hf : ∀ j, w1.frozen? ⟨w.heap.size, j, none⟩ = false := fun j => (hB0.frozen (p := ⟨w.heap.size, j, none⟩) h0).trans (by simp [go_sem])
  have hkn : ¬ kb = w.heap.size := by omega
  have hkn2 : ¬ w.heap.size = kb := by omega
  clear hB0 hkb0 h0
  go_wp2_with fail
  go_loop [15] (fun i => ∃ k : Nat, k ≤ 41 ∧ i = .int .i64 k ∧ T = srch (fun j => begF s.data.toList a (marksL.getD j [])) k (41 - k)) (fun i => 41 - (intOf i).toNat)
  case atStart => exact ⟨0, by omega, rfl, HT.out.symm⟩
  case round =>
    obtain ⟨k, hk1, rfl, hT2⟩ := hrel
    have HT2 := Lib.hid hT2; clear hT2
    by_cases hlt : k < 41
    · have hc := HK.out k hlt
      have hml := marks_len k
      have HPk := Lib.hid (HP.out k)
      obtain ⟨M, hM⟩ : ∃ M, marksL.getD k [] = M := ⟨_, rfl⟩
      cases hb : begF s.data.toList a (marksL.getD k [])
      · have HT3 : Hid (T = srch (fun j => begF s.data.toList a (marksL.getD j [])) (k + 1) (41 - (k + 1))) := HT2.out.trans (srch_miss hlt hb)
        rw [hM] at hc HPk hml hb
        have HB := Lib.hid hb; clear hb
        have HMM := Lib.hid hM; clear hM
        go_wp2_with fail
        refine (HPk.out _).mono ?_
        rintro e w2 ⟨rfl, rfl⟩
        rw [HB.out]
        go_wp2_with fail
        go_round
        case rel => exact ⟨k + 1, by omega, by go_num, HT3.out⟩
        case measure => simp [intOf]; omega
      · have HT3 : Hid (T = some k) := HT2.out.trans (srch_hit hlt hb)
        rw [hM] at hc HPk hml hb
        have HB := Lib.hid hb; clear hb
        have HMM := Lib.hid hM; clear hM
        go_wp2_with fail
        refine (HPk.out _).mono ?_
        rintro e w2 ⟨rfl, rfl⟩
        rw [HB.out]
        go_wp2_with fail
        go_region
        go_wp2
        refine bodyPost_ret (v := .tuple #[.agg #[.int .i64 4, .int .i64 a, .int .i64 0, .string ⟨M.toArray⟩, .int .i64 0], .int .i64 M.length, .int .i64 0]) (by simp [results, Tryd.results12, go_sem, *]) rfl ?_
        rw [← HR.out, HT3.out]
        refine ⟨⟨4, a, 0, 0, M.length, _, rfl, fun _ => ?_⟩, by go_grown⟩
        show ((M.length : Nat) : Int) = ((marksL.getD k []).length : Nat)
        rw [HMM.out]
    · have hk41 : 41 ≤ k := by omega
      have HT3 : Hid (T = none) := HT2.out.trans (srch_end (by omega))
      go_wp2_with fail
      refine bodyPost_ret (v := .tuple #[tokV 0 0 0 [] 0, .int .i64 0, .int .i64 2]) (by simp [results, Tryd.results12, go_sem, tokV, *]) rfl ?_
      rw [← HR.out, HT3.out]
      exact NextPost.bad (by decide) (by go_grown)
theorem rnext_any (s : ByteArray) (a : Nat) (w : World) (ha : a < s.size) (hs : s.size ≤ 65535) :
    Calls Tryd.prog 12 #[.string s, .int .i64 a] w (NextPost (nextF s.data.toList a) w) := by
  cases h1 : letF (s[a].toNat : Int)
  · cases h2 : digF (s[a].toNat : Int)
    · by_cases h3 : (s[a].toNat : Int) = 34
      · exact rnext_text s a w ha hs h3 _ rfl
      · by_cases h4 : (s[a].toNat : Int) = 39
        · exact rnext_char s a w ha hs h4 _ rfl
        · exact rnext_mark s a w ha hs h1 h2 (by simpa using h3) (by simpa using h4) _ rfl
    · exact rnext_num s a w ha hs h1 h2 _ rfl
  · exact rnext_name s a w ha hs h1 _ rfl
end Go.Proofs.YtmnkbjjffgcdmaaDoor

import Derived.Test.YtmnkbjjffgcdmaaDoorI
import Derived.Outline
namespace Go.Proofs.YtmnkbjjffgcdmaaDoor
open Go.ChangeShapes Go.WideShapes Go.ChangeAt Go.RowKit
/-- What the reference's Next returns: the error, and the length where there is none. -/
def NextPost (r : TR) (w : World) : Ending → World → Prop := fun e w' => (∃ (k p q n en : Int) (tx : ByteArray), e = .returned (.tuple #[.agg #[.int .i64 k, .int .i64 p, .int .i64 q, .string tx, .int .i64 n], .int .i64 en, .int .i64 r.e]) ∧ (r.e = 0 → en = r.len)) ∧ Below w.heap.size w w'
theorem NextPost.bad {c : Int} {w w' : World} (hc : c ≠ 0) (hB : Below w.heap.size w w') : NextPost (.bad c) w (.returned (.tuple #[tokV 0 0 0 [] 0, .int .i64 0, .int .i64 c])) w' :=
  ⟨⟨0, 0, 0, 0, 0, ⟨#[]⟩, rfl, fun h => absurd h hc⟩, hB⟩
theorem NextPost.good {r : TR} {k p q n : Int} {tx : ByteArray} {w w' : World} (h : r.e = 0) (hB : Below w.heap.size w w') : NextPost r w (.returned (.tuple #[.agg #[.int .i64 k, .int .i64 p, .int .i64 q, .string tx, .int .i64 n], .int .i64 r.len, .int .i64 0])) w' :=
  ⟨⟨k, p, q, n, r.len, tx, by rw [h], fun _ => rfl⟩, hB⟩
set_option maxHeartbeats 4000000 in
set_option maxRecDepth 20000 in
theorem rnext_name (s : ByteArray) (a : Nat) (w : World) (ha : a < s.size) (hs : s.size ≤ 65535) (hl : letF (s[a].toNat : Int) = true) (R : TR) (HR : Hid (nextF s.data.toList a = R)) :
    Calls Tryd.prog 12 #[.string s, .int .i64 a] w (NextPost R w) := by
  have hby := byte_le s a ha
  have hlen : Hid (s.data.toList.length = s.size) := rfl
  have hbd := runEnd_bd (isW s.data.toList) s.data.toList a (by rw [hlen.out]; omega)
  have HE : Hid (runEnd (isW s.data.toList) s.data.toList a = (srch (fun j => !isW s.data.toList j) a (s.size - a)).getD s.size) := rfl
  rw [hlen.out] at hbd
  obtain ⟨hbd1, hbd2⟩ := hbd
  have HN : Hid (nextF s.data.toList a = if 32 < runEnd (isW s.data.toList) s.data.toList a - a then .bad 5 else ⟨0, 1, sub s.data.toList a (runEnd (isW s.data.toList) s.data.toList a - a), 0, runEnd (isW s.data.toList) s.data.toList a - a⟩) := by
    unfold Hid nextF
    rw [bt_eq s a ha, if_pos hl]
  have HL := Lib.hid hl; clear hl
  generalize runEnd (isW s.data.toList) s.data.toList a = E at *
  go_enter Tryd.func12, Tryd.ntmps12
  go_wp2_with fail
  refine (rletter_any _ _ (by omega) hby).mono ?_
  rintro e w1 ⟨rfl, rfl⟩
  rw [HL.out]
  go_wp2_with fail
  refine (rdigit_any _ _ (by omega) hby).mono ?_
  rintro e w1 ⟨rfl, rfl⟩
  generalize digF (s[a].toNat : Int) = dd
  go_wp2_with fail
  go_loop [8] (fun i => ∃ k : Nat, a + k ≤ s.size ∧ i = .int .i64 k ∧ E = (srch (fun j => !isW s.data.toList j) (a + k) (s.size - (a + k))).getD s.size) (fun i => s.size - (intOf i).toNat)
  case atStart => exact ⟨0, by omega, rfl, HE.out⟩
  case round =>
    obtain ⟨k, hk2, rfl, hE⟩ := hrel
    have HE2 := Lib.hid hE; clear hE
    by_cases hlt : a + k < s.size
    · have hlti : (a : Int) + k < s.size := by omega
      have hi2 : (a : Int) + k ≤ s.size := by omega
      have hi3 : (a : Int) ≤ (a : Int) + k := by omega
      have hbk := byte_le s (a + k) hlt
      cases h1 : letF (s[a + k].toNat : Int)
      · cases h2 : digF (s[a + k].toNat : Int)
        · have HE3 : Hid (E = a + k) := HE2.out.trans (by rw [srch_hit hlt (by unfold isW; rw [bt_eq s (a + k) hlt, h1, h2]; rfl)]; rfl)
          have H1 := Lib.hid h1; clear h1
          have H2 := Lib.hid h2; clear h2
          by_cases hbig : 32 < (k : Int)
          · go_wp2_with fail
            refine (rletter_any _ _ (by omega) hbk).mono ?_
            rintro e w1 ⟨rfl, rfl⟩
            rw [H1.out]
            go_wp2_with fail
            refine (rdigit_any _ _ (by omega) hbk).mono ?_
            rintro e w1 ⟨rfl, rfl⟩
            rw [H2.out]
            go_wp2_with fail
            refine bodyPost_ret (v := .tuple #[tokV 0 0 0 [] 0, .int .i64 0, .int .i64 5]) (by simp [results, Tryd.results12, go_sem, tokV]) rfl ?_
            rw [← HR.out, HN.out, HE3.out, if_pos (by omega)]
            exact NextPost.bad (by decide) (by go_grown)
          · go_wp2_with fail
            refine (rletter_any _ _ (by omega) hbk).mono ?_
            rintro e w1 ⟨rfl, rfl⟩
            rw [H1.out]
            go_wp2_with fail
            refine (rdigit_any _ _ (by omega) hbk).mono ?_
            rintro e w1 ⟨rfl, rfl⟩
            rw [H2.out]
            go_wp2_with fail
            refine bodyPost_ret (v := .tuple #[.agg #[.int .i64 1, .int .i64 a, .int .i64 0, .string (s.extract a (a + k)), .int .i64 0], .int .i64 k, .int .i64 0]) (by simp [results, Tryd.results12, go_sem]) rfl ?_
            rw [← HR.out, HN.out, HE3.out, if_neg (by omega)]
            refine ⟨⟨1, a, 0, 0, k, _, rfl, fun _ => ?_⟩, by go_grown⟩
            show ((k : Nat) : Int) = ((a + k - a : Nat) : Int)
            omega
        · have HE3 : Hid (E = (srch (fun j => !isW s.data.toList j) (a + k + 1) (s.size - (a + k + 1))).getD s.size) := HE2.out.trans (by rw [srch_miss hlt (by unfold isW; rw [bt_eq s (a + k) hlt, h1, h2]; rfl)])
          have H1 := Lib.hid h1; clear h1
          have H2 := Lib.hid h2; clear h2
          go_wp2_with fail
          refine (rletter_any _ _ (by omega) hbk).mono ?_
          rintro e w1 ⟨rfl, rfl⟩
          rw [H1.out]
          go_wp2_with fail
          refine (rdigit_any _ _ (by omega) hbk).mono ?_
          rintro e w1 ⟨rfl, rfl⟩
          rw [H2.out]
          go_wp2_with fail
          go_round
          case rel => exact ⟨k + 1, by omega, by go_num, HE3.out⟩
          case measure => simp [intOf]; omega
      · have HE3 : Hid (E = (srch (fun j => !isW s.data.toList j) (a + k + 1) (s.size - (a + k + 1))).getD s.size) := HE2.out.trans (by rw [srch_miss hlt (by unfold isW; rw [bt_eq s (a + k) hlt, h1]; rfl)])
        have H1 := Lib.hid h1; clear h1
        go_wp2_with fail
        refine (rletter_any _ _ (by omega) hbk).mono ?_
        rintro e w1 ⟨rfl, rfl⟩
        rw [H1.out]
        go_wp2_with fail
        go_round
        case rel => exact ⟨k + 1, by omega, by go_num, HE3.out⟩
        case measure => simp [intOf]; omega
    · have HE3 : Hid (E = a + k) := HE2.out.trans (by rw [srch_end (by omega)]; show s.size = a + k; omega)
      have hi2 : (a : Int) + k ≤ s.size := by omega
      have hi3 : (a : Int) ≤ (a : Int) + k := by omega
      by_cases hbig : 32 < (k : Int)
      · go_wp2_with fail
        refine bodyPost_ret (v := .tuple #[tokV 0 0 0 [] 0, .int .i64 0, .int .i64 5]) (by simp [results, Tryd.results12, go_sem, tokV]) rfl ?_
        rw [← HR.out, HN.out, HE3.out, if_pos (by omega)]
        exact NextPost.bad (by decide) (by go_grown)
      · go_wp2_with fail
        refine bodyPost_ret (v := .tuple #[.agg #[.int .i64 1, .int .i64 a, .int .i64 0, .string (s.extract a (a + k)), .int .i64 0], .int .i64 k, .int .i64 0]) (by simp [results, Tryd.results12, go_sem]) rfl ?_
        rw [← HR.out, HN.out, HE3.out, if_neg (by omega)]
        refine ⟨⟨1, a, 0, 0, k, _, rfl, fun _ => ?_⟩, by go_grown⟩
        show ((k : Nat) : Int) = ((a + k - a : Nat) : Int)
        omega
end Go.Proofs.YtmnkbjjffgcdmaaDoor

/- Part of the proof of SyntaxLooseCardSaid (LJx LKx LLx LMx LNx). -/
import Derived.Test.YthkebhjaaikopaaGreatDoorM35
import Derived.Outline
import Derived.WalkKit
set_option maxHeartbeats 8000000
namespace Go.Proofs.YthkebhjaaikopaaGreatDoor.Lx
open Go.ChangeShapes Go.WideShapes Go.ChangeAt Go.RowKit
def uD (k p n : Int) (tx : ByteArray) : Prop := (1 ≤ k ∧ k ≤ 4) ∧ (0 ≤ p ∧ p ≤ 65535) ∧ (0 ≤ n ∧ n ≤ 1099511627776) ∧ tx.size ≤ 65535
def bw (r : TR) (w : World) : Ending → World → Prop := fun e w' => (∃ (k p q n en : Int) (tx : ByteArray), e = .returned (.tuple #[.agg #[.int .i64 k, .int .i64 p, .int .i64 q, .string tx, .int .i64 n], .int .i64 en, .int .i64 r.e]) ∧ (r.e = 0 → en = r.len ∧ uD k p n tx)) ∧ Below w.heap.size w w'
theorem bw.bad {c : Int} {w w' : World} (hc : c ≠ 0) (hB : Below w.heap.size w w') : bw (.bad c) w (.returned (.tuple #[cx 0 0 0 [] 0, .int .i64 0, .int .i64 c])) w' :=
 ⟨⟨0, 0, 0, 0, 0, ⟨#[]⟩, rfl, fun h => absurd h hc⟩, hB⟩
theorem bw.good {r : TR} {k p q n : Int} {tx : ByteArray} {w w' : World} (h : r.e = 0) (hq : uD k p n tx) (hB : Below w.heap.size w w') : bw r w (.returned (.tuple #[.agg #[.int .i64 k, .int .i64 p, .int .i64 q, .string tx, .int .i64 n], .int .i64 r.len, .int .i64 0])) w' :=
 ⟨⟨k, p, q, n, r.len, tx, by rw [h], fun _ => ⟨rfl, hq⟩⟩, hB⟩
set_option maxRecDepth 20000 in
theorem mV (s : ByteArray) (a : Nat) (w : World) (ha : a < s.size) (hs : s.size ≤ 65535) (hl : eD (s[a].toNat : Int) = true) (R : TR) (HR : Hid (aI s.data.toList a = R)) :
 Calls Tryz.prog 34 #[.string s, .int .i64 a] w (bw R w) := by
 have hby := cy s a ha; have hlen : Hid (s.data.toList.length = s.size) := rfl; have hbd := de (fD s.data.toList) s.data.toList a (by rw [hlen.out]; omega); have HE : Hid (aW (fD s.data.toList) s.data.toList a = (bq (fun j => !fD s.data.toList j) a (s.size - a)).getD s.size) := rfl; rw [hlen.out] at hbd; obtain ⟨hbd1, hbd2⟩ := hbd; have HN : Hid (aI s.data.toList a = if 32 < aW (fD s.data.toList) s.data.toList a - a then .bad 5 else ⟨0, 1, jh s.data.toList a (aW (fD s.data.toList) s.data.toList a - a), 0, aW (fD s.data.toList) s.data.toList a - a⟩) := by
  unfold Hid aI; rw [ck s a ha, if_pos hl]
 have HL := qd hl; clear hl; generalize aW (fD s.data.toList) s.data.toList a = E at *; go_enter Tryz.func34, Tryz.ntmps34; go_wp2_with fail; refine (bA _ _ (by omega) hby).mono ?_; rintro e w1 ⟨rfl, rfl⟩; rw [HL.out]; go_wp2_with fail; refine (bv _ _ (by omega) hby).mono ?_; rintro e w1 ⟨rfl, rfl⟩; generalize dU (s[a].toNat : Int) = dd; go_wp2_with fail
 go_loop [8] (fun i => ∃ k : Nat, a + k ≤ s.size ∧ i = .int .i64 k ∧ E = (bq (fun j => !fD s.data.toList j) (a + k) (s.size - (a + k))).getD s.size) (fun i => s.size - (intOf i).toNat)
 case atStart => exact ⟨0, by omega, rfl, HE.out⟩
 case round =>
  obtain ⟨k, hk2, rfl, hE⟩ := hrel; have HE2 := qd hE; clear hE
  by_cases hlt : a + k < s.size
  · have hlti : (a : Int) + k < s.size := by omega
    have hi2 : (a : Int) + k ≤ s.size := by omega
    have hi3 : (a : Int) ≤ (a : Int) + k := by omega
    have hbk := cy s (a + k) hlt; cases h1 : eD (s[a + k].toNat : Int)
    · cases h2 : dU (s[a + k].toNat : Int)
      · have HE3 : Hid (E = a + k) := HE2.out.trans (by rw [dj hlt (by unfold fD; rw [ck s (a + k) hlt, h1, h2]; rfl)]; rfl); have H1 := qd h1; clear h1; have H2 := qd h2; clear h2
        by_cases hbig : 32 < (k : Int)
        · go_wp2_with fail; refine (bA _ _ (by omega) hbk).mono ?_; rintro e w1 ⟨rfl, rfl⟩; rw [H1.out]; go_wp2_with fail; refine (bv _ _ (by omega) hbk).mono ?_; rintro e w1 ⟨rfl, rfl⟩; rw [H2.out]; go_wp2_with fail; refine bodyPost_ret (v := .tuple #[cx 0 0 0 [] 0, .int .i64 0, .int .i64 5]) (by simp [results, Tryz.results34, go_sem, cx]) rfl ?_; rw [← HR.out, HN.out, HE3.out, if_pos (by omega)]; exact bw.bad (by decide) (by go_grown)
        · go_wp2_with fail; refine (bA _ _ (by omega) hbk).mono ?_; rintro e w1 ⟨rfl, rfl⟩; rw [H1.out]; go_wp2_with fail; refine (bv _ _ (by omega) hbk).mono ?_; rintro e w1 ⟨rfl, rfl⟩; rw [H2.out]; go_wp2_with fail; refine bodyPost_ret (v := .tuple #[.agg #[.int .i64 1, .int .i64 a, .int .i64 0, .string (s.extract a (a + k)), .int .i64 0], .int .i64 k, .int .i64 0]) (by simp [results, Tryz.results34, go_sem]) rfl ?_; rw [← HR.out, HN.out, HE3.out, if_neg (by omega)]; refine ⟨⟨1, a, 0, 0, k, _, rfl, fun _ => ⟨?_, by omega, by omega, by omega, by simp; omega⟩⟩, by go_grown⟩; show ((k : Nat) : Int) = ((a + k - a : Nat) : Int); omega
      · have HE3 : Hid (E = (bq (fun j => !fD s.data.toList j) (a + k + 1) (s.size - (a + k + 1))).getD s.size) := HE2.out.trans (by rw [cg hlt (by unfold fD; rw [ck s (a + k) hlt, h1, h2]; rfl)]); have H1 := qd h1; clear h1; have H2 := qd h2; clear h2; go_wp2_with fail; refine (bA _ _ (by omega) hbk).mono ?_; rintro e w1 ⟨rfl, rfl⟩; rw [H1.out]; go_wp2_with fail; refine (bv _ _ (by omega) hbk).mono ?_; rintro e w1 ⟨rfl, rfl⟩; rw [H2.out]; go_wp2_with fail
        go_round
        case rel => exact ⟨k + 1, by omega, by go_num, HE3.out⟩
        case measure => simp [intOf]; omega
    · have HE3 : Hid (E = (bq (fun j => !fD s.data.toList j) (a + k + 1) (s.size - (a + k + 1))).getD s.size) := HE2.out.trans (by rw [cg hlt (by unfold fD; rw [ck s (a + k) hlt, h1]; rfl)]); have H1 := qd h1; clear h1; go_wp2_with fail; refine (bA _ _ (by omega) hbk).mono ?_; rintro e w1 ⟨rfl, rfl⟩; rw [H1.out]; go_wp2_with fail
      go_round
      case rel => exact ⟨k + 1, by omega, by go_num, HE3.out⟩
      case measure => simp [intOf]; omega
  · have HE3 : Hid (E = a + k) := HE2.out.trans (by rw [dk (by omega)]; show s.size = a + k; omega); have hi2 : (a : Int) + k ≤ s.size := by omega
    have hi3 : (a : Int) ≤ (a : Int) + k := by omega
    by_cases hbig : 32 < (k : Int)
    · go_wp2_with fail; refine bodyPost_ret (v := .tuple #[cx 0 0 0 [] 0, .int .i64 0, .int .i64 5]) (by simp [results, Tryz.results34, go_sem, cx]) rfl ?_; rw [← HR.out, HN.out, HE3.out, if_pos (by omega)]; exact bw.bad (by decide) (by go_grown)
    · go_wp2_with fail; refine bodyPost_ret (v := .tuple #[.agg #[.int .i64 1, .int .i64 a, .int .i64 0, .string (s.extract a (a + k)), .int .i64 0], .int .i64 k, .int .i64 0]) (by simp [results, Tryz.results34, go_sem]) rfl ?_; rw [← HR.out, HN.out, HE3.out, if_neg (by omega)]; refine ⟨⟨1, a, 0, 0, k, _, rfl, fun _ => ⟨?_, by omega, by omega, by omega, by simp; omega⟩⟩, by go_grown⟩; show ((k : Nat) : Int) = ((a + k - a : Nat) : Int); omega
def ft (x : Int) : Int := if x < 1099511627776 then x else 1099511627776
set_option maxRecDepth 20000 in
theorem pg (s : ByteArray) (a : Nat) (w : World) (ha : a < s.size) (hs : s.size ≤ 65535) (hl : eD (s[a].toNat : Int) = false) (hd : dU (s[a].toNat : Int) = true) (R : TR) (HR : Hid (aI s.data.toList a = R)) :
 Calls Tryz.prog 34 #[.string s, .int .i64 a] w (bw R w) := by
 have hby := cy s a ha; have hlen : Hid (s.data.toList.length = s.size) := rfl; have hbd := de (ez s.data.toList) s.data.toList a (by rw [hlen.out]; omega); have HE : Hid (aW (ez s.data.toList) s.data.toList a = (bq (fun j => !ez s.data.toList j) a (s.size - a)).getD s.size) := rfl; have HM : Hid (∀ n, n ≤ aW (ez s.data.toList) s.data.toList a - a → 0 ≤ bW s.data.toList a n ∧ bW s.data.toList a n ≤ bW s.data.toList a (aW (ez s.data.toList) s.data.toList a - a)) := by
  refine fun n hn => jW _ _ _ _ hn fun j h1 h2 => ?_
  have h3 := ly (p := fun j => !ez s.data.toList j) (i := a) (n := s.size - a) (e := aW (ez s.data.toList) s.data.toList a) (by rw [HE.out]; congr 1; omega) j h1 (by omega); simpa using h3
 have HN : Hid (aI s.data.toList a = if 2147483647 < bW s.data.toList a (aW (ez s.data.toList) s.data.toList a - a) then .bad 4 else ⟨0, 2, jh s.data.toList a (aW (ez s.data.toList) s.data.toList a - a), bW s.data.toList a (aW (ez s.data.toList) s.data.toList a - a), aW (ez s.data.toList) s.data.toList a - a⟩) := by
  unfold Hid aI; rw [ck s a ha, if_neg (by rw [hl]; decide), if_pos hd]
 have HL := qd hl; clear hl; have HD := qd hd; clear hd; rw [hlen.out] at hbd; obtain ⟨hbd1, hbd2⟩ := hbd; generalize aW (ez s.data.toList) s.data.toList a = E at *; go_enter Tryz.func34, Tryz.ntmps34; go_wp2_with fail; refine (bA _ _ (by omega) hby).mono ?_; rintro e w1 ⟨rfl, rfl⟩; rw [HL.out]; go_wp2_with fail; refine (bv _ _ (by omega) hby).mono ?_; rintro e w1 ⟨rfl, rfl⟩; rw [HD.out]; go_wp2_with fail
 go_loop [8, 11] (fun i v => ∃ k : Nat, a + k ≤ s.size ∧ a + k ≤ E ∧ i = .int .i64 k ∧ v = .int .i64 (ft (bW s.data.toList a k)) ∧ E = (bq (fun j => !ez s.data.toList j) (a + k) (s.size - (a + k))).getD s.size) (fun i _ => s.size - (intOf i).toNat)
 case atStart => exact ⟨0, by omega, by omega, rfl, rfl, HE.out⟩
 case round =>
  obtain ⟨k, hk2, hkE, rfl, rfl, hE⟩ := hrel; have HE2 := qd hE; clear hE; have hv0 := (HM.out k (by omega)).1; have hi2 : (a : Int) + k ≤ s.size := by omega
  have hi3 : (a : Int) ≤ (a : Int) + k := by omega
  have hV1 : 0 ≤ ft (bW s.data.toList a k) := by unfold ft; split <;> omega
  have hV2 : ft (bW s.data.toList a k) ≤ 1099511627776 := by unfold ft; split <;> omega
  have close : E = a + k → ∀ (w1 : World), Below w.heap.size w w1 → (2147483647 < ft (bW s.data.toList a k) → bw R w (.returned (.tuple #[cx 0 0 0 [] 0, .int .i64 0, .int .i64 4])) w1) ∧ (¬ 2147483647 < ft (bW s.data.toList a k) → bw R w (.returned (.tuple #[.agg #[.int .i64 2, .int .i64 a, .int .i64 0, .string (s.extract a (a + k)), .int .i64 (ft (bW s.data.toList a k))], .int .i64 k, .int .i64 0])) w1) := by
   intro h w1 hB; have hn : a + k - a = k := by omega
   constructor
   · intro hc; rw [← HR.out, HN.out, h, hn, if_pos (by unfold ft at hc; split at hc <;> omega)]; exact bw.bad (by decide) hB
   · intro hc; rw [← HR.out, HN.out, h, hn, if_neg (by unfold ft at hc; split at hc <;> omega)]; exact ⟨⟨2, a, 0, _, k, _, rfl, fun _ => ⟨rfl, by omega, by omega, by omega, by simp; omega⟩⟩, hB⟩
  have CL := qd close; clear close
  by_cases hlt : a + k < s.size
  · have hlti : (a : Int) + k < s.size := by omega
    have hbk := cy s (a + k) hlt; cases h2 : dU (s[a + k].toNat : Int)
    · have HE3 : Hid (E = a + k) := HE2.out.trans (by rw [dj hlt (by unfold ez; rw [ck s (a + k) hlt, h2]; rfl)]; rfl); have H2 := qd h2; clear h2; generalize ft (bW s.data.toList a k) = V at *
      by_cases hbig : 2147483647 < V
      · go_wp2_with fail; refine (bv _ _ (by omega) hbk).mono ?_; rintro e w1 ⟨rfl, rfl⟩; rw [H2.out]; go_wp2_with fail; refine bodyPost_ret (v := .tuple #[cx 0 0 0 [] 0, .int .i64 0, .int .i64 4]) (by simp [results, Tryz.results34, go_sem, cx]) rfl ?_; exact (CL.out HE3.out _ (by go_grown)).1 hbig
      · go_wp2_with fail; refine (bv _ _ (by omega) hbk).mono ?_; rintro e w1 ⟨rfl, rfl⟩; rw [H2.out]; go_wp2_with fail; refine bodyPost_ret (v := .tuple #[.agg #[.int .i64 2, .int .i64 a, .int .i64 0, .string (s.extract a (a + k)), .int .i64 V], .int .i64 k, .int .i64 0]) (by simp [results, Tryz.results34, go_sem]) rfl ?_; exact (CL.out HE3.out _ (by go_grown)).2 hbig
    · have h48 := of_decide_eq_true h2; obtain ⟨h48a, h48b⟩ := h48; have HE3 : Hid (E = (bq (fun j => !ez s.data.toList j) (a + k + 1) (s.size - (a + k + 1))).getD s.size) := HE2.out.trans (by rw [cg hlt (by unfold ez; rw [ck s (a + k) hlt, h2]; rfl)]); have HV : Hid (bW s.data.toList a (k + 1) = bW s.data.toList a k * 10 + ((s[a + k].toNat : Int) - 48)) := by
       unfold Hid; rw [bW, ck s (a + k) hlt]
      have HC : Hid (ft (bW s.data.toList a (k + 1)) = min (10 * ft (bW s.data.toList a k) + ((s[a + k].toNat : Int) - 48)) 1099511627776) := by
       unfold Hid; rw [HV.out]; unfold ft
       split <;> split <;> omega
      have H2 := qd h2; clear h2; generalize ft (bW s.data.toList a k) = V at *; go_wp2_with fail; refine (bv _ _ (by omega) hbk).mono ?_; rintro e w1 ⟨rfl, rfl⟩; rw [H2.out]; go_wp2_with fail
      go_round
      case rel => exact ⟨k + 1, by omega, by rw [HE3.out]; exact gX (by omega), by go_num, by rw [HC.out], HE3.out⟩
      case measure => simp [intOf]; omega
  · have HE3 : Hid (E = a + k) := HE2.out.trans (by rw [dk (by omega)]; show s.size = a + k; omega); generalize ft (bW s.data.toList a k) = V at *
    by_cases hbig : 2147483647 < V
    · go_wp2_with fail; refine bodyPost_ret (v := .tuple #[cx 0 0 0 [] 0, .int .i64 0, .int .i64 4]) (by simp [results, Tryz.results34, go_sem, cx]) rfl ?_; exact (CL.out HE3.out _ (by go_grown)).1 hbig
    · go_wp2_with fail; refine bodyPost_ret (v := .tuple #[.agg #[.int .i64 2, .int .i64 a, .int .i64 0, .string (s.extract a (a + k)), .int .i64 V], .int .i64 k, .int .i64 0]) (by simp [results, Tryz.results34, go_sem]) rfl ?_; exact (CL.out HE3.out _ (by go_grown)).2 hbig
set_option maxRecDepth 20000 in
theorem mX (s : ByteArray) (a : Nat) (w : World) (ha : a < s.size) (hs : s.size ≤ 65535) (hc : (s[a].toNat : Int) = 39) (R : TR) (HR : Hid (aI s.data.toList a = R)) :
 Calls Tryz.prog 34 #[.string s, .int .i64 a] w (bw R w) := by
 have hby := cy s a ha; have hl : eD (s[a].toNat : Int) = false := by rw [hc]; decide
 have hd : dU (s[a].toNat : Int) = false := by rw [hc]; decide
 have hc2 : ((s[a].toNat : Int) == 39) = true := by rw [hc]; rfl
 have HN : Hid (aI s.data.toList a = match dQ s.data.toList a with
  | none => .bad 3
  | some (v, n) => ⟨0, 2, jh s.data.toList a n, v, n⟩) := by
  unfold Hid aI; rw [ck s a ha, hl, hd, if_neg (by decide), if_neg (by decide), if_neg (by rw [hc]; decide), if_pos hc]; rfl
 have CH := qd (ri s a); have CB := fun v n => @mh s.data.toList a n v
 rw [show s.data.toList.length = s.size from rfl] at CB; clear hc; have HL := qd hl; clear hl; have HD := qd hd; clear hd; generalize dQ s.data.toList a = T at *; cases T with
 | none =>
   clear CB; go_enter Tryz.func34, Tryz.ntmps34; go_wp2_with fail; refine (bA _ _ (by omega) hby).mono ?_; rintro e w1 ⟨rfl, rfl⟩; rw [HL.out]; go_wp2_with fail; refine (bv _ _ (by omega) hby).mono ?_; rintro e w1 ⟨rfl, rfl⟩; rw [HD.out]; go_wp2_with fail; refine (CH.out _ ha hs).mono ?_; rintro e w1 ⟨rfl, rfl⟩; simp only [rG]; go_wp2_with fail; refine bodyPost_ret (v := .tuple #[cx 0 0 0 [] 0, .int .i64 0, .int .i64 3]) (by simp [results, Tryz.results34, go_sem, cx]) rfl ?_; rw [← HR.out, HN.out]; exact bw.bad (by decide) (by go_grown)
 | some p =>
   obtain ⟨v, n⟩ := p; obtain ⟨hn1, hn2, hn3, hv1, hv2⟩ := CB v n rfl; clear CB; have hi1 : (a : Int) + n ≤ s.size := by omega
   have hi2 : (a : Int) ≤ (a : Int) + n := by omega
   have hi3 : ((n : Int) == 0) = false := by rw [beq_eq_false_iff_ne]; omega
   go_enter Tryz.func34, Tryz.ntmps34; go_wp2_with fail; refine (bA _ _ (by omega) hby).mono ?_; rintro e w1 ⟨rfl, rfl⟩; rw [HL.out]; go_wp2_with fail; refine (bv _ _ (by omega) hby).mono ?_; rintro e w1 ⟨rfl, rfl⟩; rw [HD.out]; go_wp2_with fail; refine (CH.out _ ha hs).mono ?_; rintro e w1 ⟨rfl, rfl⟩; simp only [rG]; go_wp2_with fail; refine bodyPost_ret (v := .tuple #[.agg #[.int .i64 2, .int .i64 a, .int .i64 0, .string (s.extract a (a + n)), .int .i64 v], .int .i64 n, .int .i64 0]) (by simp [results, Tryz.results34, go_sem]) rfl ?_; rw [← HR.out, HN.out]; exact ⟨⟨2, a, 0, v, n, _, rfl, fun _ => ⟨rfl, by omega, by omega, by omega, by simp; omega⟩⟩, by go_grown⟩
set_option maxRecDepth 20000 in
theorem mU (s : ByteArray) (a : Nat) (w : World) (ha : a < s.size) (hs : s.size ≤ 65535) (hc : (s[a].toNat : Int) = 34) (R : TR) (HR : Hid (aI s.data.toList a = R)) :
 Calls Tryz.prog 34 #[.string s, .int .i64 a] w (bw R w) := by
 have hby := cy s a ha; have hl : eD (s[a].toNat : Int) = false := by rw [hc]; decide
 have hd : dU (s[a].toNat : Int) = false := by rw [hc]; decide
 have hc2 : ((s[a].toNat : Int) == 39) = false := by rw [hc]; rfl
 have hc3 : ((s[a].toNat : Int) == 34) = true := by rw [hc]; rfl
 have HN : Hid (aI s.data.toList a = match mM s.data.toList a with
  | none => .bad 3
  | some e => if 202 + a < e then .bad 5 else ⟨0, 3, jh s.data.toList (a + 1) (e - a - 2), 0, e - a⟩) := by
  unfold Hid aI; rw [ck s a ha, hl, hd, if_neg (by decide), if_neg (by decide), if_pos hc]; rfl
 have TX := qd (lD s a); have TB := fun e => @ol s.data.toList a e
 rw [show s.data.toList.length = s.size from rfl] at TB; clear hc; have HL := qd hl; clear hl; have HD := qd hd; clear hd; generalize mM s.data.toList a = T at *; cases T with
 | none =>
   clear TB; go_enter Tryz.func34, Tryz.ntmps34; go_wp2_with fail; refine (bA _ _ (by omega) hby).mono ?_; rintro e w1 ⟨rfl, rfl⟩; rw [HL.out]; go_wp2_with fail; refine (bv _ _ (by omega) hby).mono ?_; rintro e w1 ⟨rfl, rfl⟩; rw [HD.out]; go_wp2_with fail; refine (TX.out _ ha hs).mono ?_; rintro e w1 ⟨rfl, rfl⟩; simp only [tY]; go_wp2_with fail; refine bodyPost_ret (v := .tuple #[cx 0 0 0 [] 0, .int .i64 0, .int .i64 3]) (by simp [results, Tryz.results34, go_sem, cx]) rfl ?_; rw [← HR.out, HN.out]; exact bw.bad (by decide) (by go_grown)
 | some e0 =>
   obtain ⟨hn1, hn2⟩ := TB e0 rfl; clear TB; obtain ⟨n, rfl⟩ : ∃ n : Nat, e0 = a + n := ⟨e0 - a, by omega⟩; have he0 : ((a + n : Nat) : Int) - a = n := by omega
   have hi0 : (a : Int) + 1 ≤ (a : Int) + n - 1 := by omega
   have hi1 : (a : Int) + n - 1 ≤ s.size := by omega
   have hi3 : ((n : Int) == 0) = false := by rw [beq_eq_false_iff_ne]; omega
   have hi4 : 2 ≤ n := by omega
   have hi5 : n ≤ 65535 := by omega
   by_cases hbig : 200 < (n : Int) - 2
   · go_enter Tryz.func34, Tryz.ntmps34; go_wp2_with fail; refine (bA _ _ (by omega) hby).mono ?_; rintro e w1 ⟨rfl, rfl⟩; rw [HL.out]; go_wp2_with fail; refine (bv _ _ (by omega) hby).mono ?_; rintro e w1 ⟨rfl, rfl⟩; rw [HD.out]; go_wp2_with fail; refine (TX.out _ ha hs).mono ?_; rintro e w1 ⟨rfl, rfl⟩; simp only [tY]; rw [he0]; go_wp2_with fail; refine bodyPost_ret (v := .tuple #[cx 0 0 0 [] 0, .int .i64 0, .int .i64 5]) (by simp [results, Tryz.results34, go_sem, cx]) rfl ?_; rw [← HR.out, HN.out]; rw [if_pos (by omega)]; exact bw.bad (by decide) (by go_grown)
   · go_enter Tryz.func34, Tryz.ntmps34; go_wp2_with fail; refine (bA _ _ (by omega) hby).mono ?_; rintro e w1 ⟨rfl, rfl⟩; rw [HL.out]; go_wp2_with fail; refine (bv _ _ (by omega) hby).mono ?_; rintro e w1 ⟨rfl, rfl⟩; rw [HD.out]; go_wp2_with fail; refine (TX.out _ ha hs).mono ?_; rintro e w1 ⟨rfl, rfl⟩; simp only [tY]; rw [he0]; go_wp2_with fail; refine bodyPost_ret (v := .tuple #[.agg #[.int .i64 3, .int .i64 a, .int .i64 0, .string (s.extract (a + 1) (a + n - 1)), .int .i64 0], .int .i64 n, .int .i64 0]) (by simp [results, Tryz.results34, go_sem]) rfl ?_; rw [← HR.out, HN.out]; rw [if_neg (by omega)]; refine ⟨⟨3, a, 0, 0, n, _, rfl, fun _ => ⟨?_, by omega, by omega, by omega, by simp; omega⟩⟩, by go_grown⟩; show (n : Int) = ((a + n - a : Nat) : Int); omega
def qI : Array Value := (az.map fun m => Value.string ⟨m.toArray⟩).toArray
def pX (w : World) : Ending → World → Prop := fun e w' => ∃ kb : Nat, e = .returned (.slice (some ⟨kb, 0, none⟩) 41 41) ∧ w.heap.size = kb ∧ kb < w'.heap.size ∧ (∀ i, i < 41 → w'.cell? ⟨kb, i, none⟩ = some (.string ⟨(az.getD i []).toArray⟩)) ∧ Below w.heap.size w w'
theorem iH (w : World) (i : Nat) (h : i < 41) : (w.alloc (.cells qI 9)).cell? ⟨w.heap.size, i, none⟩ = some (.string ⟨(az.getD i []).toArray⟩) := by
 have hl : az.length = 41 := by decide +kernel
 rw [World.cell?_alloc_new]; unfold qI; simp [hl, h]
set_option maxRecDepth 20000 in
theorem pz (w : World) : Calls Tryz.prog 87 #[] w (pX w) := by
 go_enter Tryz.func87, Tryz.ntmps87; go_wp2; refine bodyPost_ret (v := .slice (some ⟨w.heap.size, 0, none⟩) 41 41) (by simp [results, Tryz.results87, go_sem]) rfl ⟨w.heap.size, rfl, rfl, by simp [go_sem], fun i h => iH w i h, by go_grown⟩
set_option maxRecDepth 20000 in
theorem mW (s : ByteArray) (a : Nat) (w : World) (ha : a < s.size) (hs : s.size ≤ 65535) (hl : eD (s[a].toNat : Int) = false) (hd : dU (s[a].toNat : Int) = false) (h34 : ((s[a].toNat : Int) == 34) = false) (h39 : ((s[a].toNat : Int) == 39) = false) (R : TR) (HR : Hid (aI s.data.toList a = R)) :
 Calls Tryz.prog 34 #[.string s, .int .i64 a] w (bw R w) := by
 have hby := cy s a ha; have hHN : aI s.data.toList a = match iI s.data.toList a with
  | none => .bad 2
  | some j => ⟨0, 4, az.getD j [], 0, (az.getD j []).length⟩ := by
  unfold aI; rw [ck s a ha, hl, hd, if_neg (by decide), if_neg (by decide), if_neg (by simpa using h34), if_neg (by simpa using h39)]; rfl
 rw [hHN] at HR; clear hHN; have HL := qd hl; clear hl; have HD := qd hd; clear hd; have HP : Hid (∀ (j : Nat) (w0 : World), Calls Tryz.prog 82 #[.string s, .int .i64 a, .string ⟨(az.getD j []).toArray⟩] w0 fun e w' => e = .returned (.bool (bL s.data.toList a (az.getD j []))) ∧ w0 = w') := by
  intro j w0; have hj := gu j; exact aU s a ⟨(az.getD j []).toArray⟩ w0 (by omega) hs (by show (az.getD j []).length ≤ 100; omega)
 obtain ⟨T, hT⟩ : ∃ T, iI s.data.toList a = T := ⟨_, rfl⟩; rw [hT] at HR; have HT := qd hT; clear hT; go_enter Tryz.func34, Tryz.ntmps34; go_wp2_with fail; refine (bA _ _ (by omega) hby).mono ?_; rintro e w1 ⟨rfl, rfl⟩; rw [HL.out]; go_wp2_with fail; refine (bv _ _ (by omega) hby).mono ?_; rintro e w1 ⟨rfl, rfl⟩; rw [HD.out]; go_wp2_with fail; refine (pz _).mono ?_; rintro e w1 ⟨kb, rfl, hkb0, hkb, hk, hB0⟩; have HK := qd hk; clear hk; have h0 : w.heap.size < (w.alloc (.cells #[.int .i64 0, .int .i64 0, .int .i64 0, .string ⟨#[]⟩, .int .i64 0] 31)).heap.size := by simp [go_sem]
 have hs1 : w.heap.size < w1.heap.size := by omega
 have hB1 : Below w.heap.size w w1 := ((Below.refl _ w).alloc (Nat.le_refl _) _).trans (hB0.mono (Nat.le_of_lt h0)); have c0 : w1.cell? ⟨w.heap.size, 0, none⟩ = some (.int .i64 0) := (je hB0 _ _ h0).trans (by simp [go_sem]); have c1 : w1.cell? ⟨w.heap.size, 1, none⟩ = some (.int .i64 0) := (je hB0 _ _ h0).trans (by simp [go_sem]); have c2 : w1.cell? ⟨w.heap.size, 2, none⟩ = some (.int .i64 0) := (je hB0 _ _ h0).trans (by simp [go_sem]); have c3 : w1.cell? ⟨w.heap.size, 3, none⟩ = some (.string ⟨#[]⟩) := (je hB0 _ _ h0).trans (by simp [go_sem]); have c4 : w1.cell? ⟨w.heap.size, 4, none⟩ = some (.int .i64 0) := (je hB0 _ _ h0).trans (by simp [go_sem]); have hf : ∀ j, w1.frozen? ⟨w.heap.size, j, none⟩ = false := fun j => (hB0.frozen (p := ⟨w.heap.size, j, none⟩) h0).trans (by simp [go_sem])
 have hkn : ¬ kb = w.heap.size := by omega
 have hkn2 : ¬ w.heap.size = kb := by omega
 clear hB0 hkb0 h0; go_wp2_with fail
 go_loop [15] (fun i => ∃ k : Nat, k ≤ 41 ∧ i = .int .i64 k ∧ T = bq (fun j => bL s.data.toList a (az.getD j [])) k (41 - k)) (fun i => 41 - (intOf i).toNat)
 case atStart => exact ⟨0, by omega, rfl, HT.out.symm⟩
 case round =>
  obtain ⟨k, hk1, rfl, hT2⟩ := hrel; have HT2 := qd hT2; clear hT2
  by_cases hlt : k < 41
  · have hc := HK.out k hlt; have hml := gu k; have HPk := qd (HP.out k); obtain ⟨M, hM⟩ : ∃ M, az.getD k [] = M := ⟨_, rfl⟩; cases hb : bL s.data.toList a (az.getD k [])
    · have HT3 : Hid (T = bq (fun j => bL s.data.toList a (az.getD j [])) (k + 1) (41 - (k + 1))) := HT2.out.trans (cg hlt hb); rw [hM] at hc HPk hml hb; have HB := qd hb; clear hb; have HMM := qd hM; clear hM; go_wp2_with fail; refine (HPk.out _).mono ?_; rintro e w2 ⟨rfl, rfl⟩; rw [HB.out]; go_wp2_with fail
      go_round
      case rel => exact ⟨k + 1, by omega, by go_num, HT3.out⟩
      case measure => simp [intOf]; omega
    · have HT3 : Hid (T = some k) := HT2.out.trans (dj hlt hb); rw [hM] at hc HPk hml hb; have HB := qd hb; clear hb; have HMM := qd hM; clear hM; go_wp2_with fail; refine (HPk.out _).mono ?_; rintro e w2 ⟨rfl, rfl⟩; rw [HB.out]; go_wp2_with fail; go_region; go_wp2; refine bodyPost_ret (v := .tuple #[.agg #[.int .i64 4, .int .i64 a, .int .i64 0, .string ⟨M.toArray⟩, .int .i64 0], .int .i64 M.length, .int .i64 0]) (by simp [results, Tryz.results34, go_sem, *]) rfl ?_; rw [← HR.out, HT3.out]; refine ⟨⟨4, a, 0, 0, M.length, _, rfl, fun _ => ⟨?_, by omega, by omega, by omega, by show M.length ≤ 65535; omega⟩⟩, by go_grown⟩; show ((M.length : Nat) : Int) = ((az.getD k []).length : Nat); rw [HMM.out]
  · have hk41 : 41 ≤ k := by omega
    have HT3 : Hid (T = none) := HT2.out.trans (dk (by omega)); go_wp2_with fail; refine bodyPost_ret (v := .tuple #[cx 0 0 0 [] 0, .int .i64 0, .int .i64 2]) (by simp [results, Tryz.results34, go_sem, cx, *]) rfl ?_; rw [← HR.out, HT3.out]; exact bw.bad (by decide) (by go_grown)
theorem ph (s : ByteArray) (a : Nat) (w : World) (ha : a < s.size) (hs : s.size ≤ 65535) :
 Calls Tryz.prog 34 #[.string s, .int .i64 a] w (bw (aI s.data.toList a) w) := by
 cases h1 : eD (s[a].toNat : Int)
 · cases h2 : dU (s[a].toNat : Int)
   · by_cases h3 : (s[a].toNat : Int) = 34
     · exact mU s a w ha hs h3 _ rfl
     · by_cases h4 : (s[a].toNat : Int) = 39
       · exact mX s a w ha hs h4 _ rfl
       · exact mW s a w ha hs h1 h2 (by simpa using h3) (by simpa using h4) _ rfl
   · exact pg s a w ha hs h1 h2 _ rfl
 · exact mV s a w ha hs h1 _ rfl
def cj (l : List UInt8) : Nat → Nat → Nat → Int × Int
 | 0, _, _ => (0, 0)
 | f + 1, a, c =>
   if l.length ≤ a then (0, 0) else
   match aP (bt l a) l a with
   | none => (3, a)
   | some (n + 1, _) => cj l f (a + (n + 1)) c
   | some (0, _) => if (aI l a).e = 0 then (if c = 8191 then (8, a) else cj l f (a + (aI l a).len) (c + 1)) else ((aI l a).e, a)
def sP (l : List UInt8) : Int × Int := if 65535 < l.length then (1, 65535) else cj l (l.length + 1) 0 0
theorem fu {l : List UInt8} {a : Nat} {p : Nat → Bool} (h : a < l.length) (hp : p a = true) : a + 1 ≤ aW p l a ∧ aW p l a ≤ l.length := by
 have h2 := (de p l a (by omega)).2; refine ⟨?_, h2⟩; unfold aW; rw [cg h (by rw [hp]; rfl)]; exact gX (by omega)
theorem py : ∀ j, j < 41 → 1 ≤ (az.getD j []).length := by
 have h : ∀ j : Fin 41, 1 ≤ (az.getD j.val []).length := by decide +kernel
 exact fun j hj => h ⟨j, hj⟩
theorem jd {l : List UInt8} {a : Nat} {t : List UInt8} (h : bL l a t = true) (ha : a ≤ l.length) : a + t.length ≤ l.length ∧ jh l a t.length = t := by
 unfold bL at h; rw [fN] at h; have h1 := eq_of_beq h; have h2 := congrArg List.length h1; simp at h2; exact ⟨by omega, h1⟩
theorem gV {l : List UInt8} {a n : Nat} (h : a + n ≤ l.length) : (jh l a n).length = n := by
 unfold jh; simp; omega
theorem iE {l : List UInt8} {a : Nat} (ha : a < l.length) (h : (aI l a).e = 0) :
 1 ≤ (aI l a).len ∧ a + (aI l a).len ≤ l.length ∧
   (((aI l a).kind = 1 ∨ (aI l a).kind = 2 ∨ (aI l a).kind = 4) ∧ (aI l a).text = jh l a (aI l a).len ∧ (aI l a).text.length = (aI l a).len ∨
    (aI l a).kind = 3 ∧ (aI l a).text = jh l (a + 1) ((aI l a).len - 2) ∧ (aI l a).text.length + 2 = (aI l a).len ∧ 2 ≤ (aI l a).len) := by
 unfold aI at h ⊢
 split at h
 · rename_i h1; obtain ⟨q1, q2⟩ := fu (p := fD l) ha (by unfold fD; rw [h1]; rfl); rw [if_pos h1]
   split at h
   · exact absurd h (by decide)
   · rename_i h2; rw [if_neg h2]; exact ⟨by show 1 ≤ _ - a; omega, by show a + (_ - a) ≤ _; omega, .inl ⟨.inl rfl, rfl, gV (by omega)⟩⟩
 · rename_i h1; rw [if_neg h1]
   split at h
   · rename_i h2; obtain ⟨q1, q2⟩ := fu (p := ez l) ha (by unfold ez; exact h2); rw [if_pos h2]
     split at h
     · exact absurd h (by decide)
     · rename_i h3; rw [if_neg h3]; exact ⟨by show 1 ≤ _ - a; omega, by show a + (_ - a) ≤ _; omega, .inl ⟨.inr (.inl rfl), rfl, gV (by omega)⟩⟩
   · rename_i h2; rw [if_neg h2]
     split at h
     · rename_i h3; rw [if_pos h3]; cases hT : mM l a with
       | none => rw [hT] at h; exact absurd (show (3 : Int) = 0 from h) (by decide)
       | some e =>
         rw [hT] at h; have hb := ol hT; simp only at h ⊢
         split at h
         · exact absurd h (by decide)
         · rename_i h4; rw [if_neg h4]; refine ⟨by show 1 ≤ e - a; omega, by show a + (e - a) ≤ _; omega, .inr ⟨rfl, rfl, ?_, by show 2 ≤ e - a; omega⟩⟩; show (jh l (a + 1) (e - a - 2)).length + 2 = e - a; rw [gV (by omega)]; omega
     · rename_i h3; rw [if_neg h3]
       split at h
       · rename_i h4; rw [if_pos h4]; cases hC : dQ l a with
         | none => rw [hC] at h; exact absurd (show (3 : Int) = 0 from h) (by decide)
         | some p =>
           obtain ⟨v, n⟩ := p; have hb := mh hC; exact ⟨by show 1 ≤ n; omega, by show a + n ≤ _; omega, .inl ⟨.inr (.inl rfl), rfl, gV (by omega)⟩⟩
       · rename_i h4; rw [if_neg h4]; cases hM : iI l a with
         | none => rw [hM] at h; exact absurd h (by decide)
         | some j =>
           have hj := fc hM; have hb := jd hj.2.2 (Nat.le_of_lt ha); exact ⟨py j (by omega), hb.1, .inl ⟨.inr (.inr rfl), hb.2.symm, rfl⟩⟩
theorem Tryz.info31 : (Tryz.prog.info? 31).map (fun i => (i.zero, i.size, i.bytes)) = some (some (.agg #[.int .i64 0, .int .i64 0, .int .i64 0, .string ⟨#[]⟩, .int .i64 0]), 5, 48) := by kernel_rfl
theorem cw {w w' : World} {base : Nat} {e : TypeId} {size : Nat} {v : Value} {n : Nat} {xs : List Value} (h : w.ownsRow base e size v n xs) (hB : Below w.heap.size w w') : w'.ownsRow base e size v n xs := by
 refine ⟨h.1, ?_⟩; rcases h.2 with h2 | ⟨g, cap, cur, rfl, hb, hg, r⟩
 · exact .inl h2
 · refine .inr ⟨g, cap, cur, rfl, hb, (hB.block g ?_).trans hg, r⟩; exact (Array.getElem?_eq_some_iff.1 hg).1
theorem po {w : World} {base : Nat} {e : TypeId} {size : Nat} {v : Value} {n : Nat} {xs : List Value} (h : w.ownsRow base e size v n xs) : ∃ ao cap, v = .slice ao n cap := by
 rcases h.2 with ⟨rfl, rfl⟩ | ⟨g, cap, cur, rfl, hb, hg, r⟩
 · exact ⟨none, 0, rfl⟩
 · exact ⟨_, cap, rfl⟩
theorem gM {B : Nat} {w wr W w1 : World} {e : TypeId} {size : Nat} {v : Value} {n : Nat} {xs : List Value} (h : Below B w wr) (hb : B ≤ wr.heap.size) (hown : wr.ownsRow B e size v n xs) (hW : Below wr.heap.size wr W) (hg : W.grownBy w1 v.ownBlock) : Below B w w1 :=
 (h.trans (hW.mono hb)).grown hg (Nat.le_trans hb hW.size) fun k hk => (hown.lt k hk).1
theorem jZ {c : Int} {l : List UInt8} {a n k : Nat} (h : aP c l a = some (n, k)) (ha : a < l.length) : a + n ≤ l.length ∧ k ≤ n := by
 unfold aP at h
 split at h
 · simp at h; omega
 · split at h
   · simp at h; omega
   · split at h
     · rename_i h3; have := jd h3 (Nat.le_of_lt ha); simp at h this; omega
     · split at h
       · cases hs : bq (fun j => bL l j [42, 47]) (a + 2) (l.length - (a + 2)) with
         | none => rw [hs] at h; simp at h
         | some j =>
           rw [hs] at h; have hj := fc hs; have := jd hj.2.2 (by omega); simp at h this; omega
       · split at h
         · simp at h; have := gX (p := eE l) (i := a) (N := l.length) (by omega); cases hs : bq (eE l) a (l.length - a) with
           | none => rw [hs] at h; simp at h; omega
           | some j =>
             rw [hs] at h; have hj := fc hs; simp at h; omega
         · simp at h; omega
theorem jv {l : List UInt8} {f a c : Nat} (h : l.length ≤ a) : cj l f a c = (0, 0) := by
 cases f with
 | zero => rfl
 | succ f => rw [cj, if_pos h]
theorem il {l : List UInt8} {f a c : Nat} (h : a < l.length) (hb : aP (bt l a) l a = none) : cj l (f + 1) a c = ((3 : Int), (a : Int)) := by
 rw [cj, if_neg (by omega), hb]
theorem gE {l : List UInt8} {f a c n k : Nat} (h : a < l.length) (hb : aP (bt l a) l a = some (n + 1, k)) : cj l (f + 1) a c = cj l f (a + (n + 1)) c := by
 rw [cj, if_neg (by omega), hb]
theorem jw {l : List UInt8} {f a c k : Nat} (h : a < l.length) (hb : aP (bt l a) l a = some (0, k)) (he : ¬ (aI l a).e = 0) : cj l (f + 1) a c = ((aI l a).e, (a : Int)) := by
 rw [cj, if_neg (by omega), hb]; exact if_neg he
theorem im {l : List UInt8} {f a k : Nat} (h : a < l.length) (hb : aP (bt l a) l a = some (0, k)) (he : (aI l a).e = 0) : cj l (f + 1) a 8191 = ((8 : Int), (a : Int)) := by
 rw [cj, if_neg (by omega), hb]; exact (if_pos he).trans (if_pos rfl)
theorem ju {l : List UInt8} {f a c k : Nat} (h : a < l.length) (hb : aP (bt l a) l a = some (0, k)) (he : (aI l a).e = 0) (hc : ¬ c = 8191) : cj l (f + 1) a c = cj l f (a + (aI l a).len) (c + 1) := by
 rw [cj, if_neg (by omega), hb]; exact (if_pos he).trans (if_neg hc)
end Go.Proofs.YthkebhjaaikopaaGreatDoor.Lx

/-
  Contracts of good.Reach, and of the reference's Reach and Fits. Conditions: the numbers of the variable's indexes fit their kind.
-/
import Derived.Test.YtblpajbacdbgpaaA
namespace Go.Proofs.Ytblpajbacdbgpaa
open Go.ChangeShapes Go.WideShapes Go.ChangeAt Go.RowKit
def far : Int := 1073741824
def Dim.bad (d : Dim) : Prop := d.len < 1 ∨ 1073741824 < d.len - 1 ∨ d.stride < 0 ∨ 1073741824 < d.stride
def Dim.step (d : Dim) : Int := (d.len - 1) * d.stride
open Classical in
noncomputable def reachF (slot : Int) (ds : List Dim) : Int :=
  if slot < 0 ∨ 1073741824 < slot ∨ 4 < ds.length ∨ ∃ d ∈ ds, d.bad then 0 else slot + 1 + (ds.map Dim.step).sum
theorem Dim.step_bd {d : Dim} (h : ¬ d.bad) : 0 ≤ d.step ∧ d.step ≤ 1152921504606846976 := by
  unfold Dim.bad at h
  unfold Dim.step
  have h1 : 0 ≤ d.len - 1 := by omega
  have h2 : d.len - 1 ≤ 1073741824 := by omega
  have h3 : 0 ≤ d.stride := by omega
  have h4 : d.stride ≤ 1073741824 := by omega
  refine ⟨Int.mul_nonneg h1 h3, ?_⟩
  have := Int.mul_le_mul h2 h4 h3 (by omega)
  omega
theorem take_map_sum {ds : List Dim} {k : Nat} (h : k < ds.length) : ((ds.take (k + 1)).map Dim.step).sum = ((ds.take k).map Dim.step).sum + (ds.getD k default).step := by
  rw [List.take_succ_eq_append_getElem h, List.map_append, List.sum_append]
  simp [List.getD_eq_getElem?_getD, h]
theorem sum_bd {l : List Dim} (h : ∀ d ∈ l, ¬ d.bad) : 0 ≤ (l.map Dim.step).sum ∧ (l.map Dim.step).sum ≤ 1152921504606846976 * l.length := by
  induction l with
  | nil => simp
  | cons d r ih =>
    have h1 := ih (fun x hx => h x (List.mem_cons_of_mem _ hx))
    have h2 := Dim.step_bd (h d (List.mem_cons_self ..))
    simp only [List.map_cons, List.sum_cons, List.length_cons]
    omega

theorem take_ok {ds : List Dim} {k : Nat} (h : k < ds.length) (hok : ∀ d ∈ ds.take k, ¬ d.bad) (hb : ¬ (ds.getD k default).bad) : ∀ d ∈ ds.take (k + 1), ¬ d.bad := by
  intro d hd
  rw [List.take_succ_eq_append_getElem h, List.mem_append] at hd
  rcases hd with hd | hd
  · exact hok d hd
  · simp only [List.mem_singleton] at hd
    rw [hd]; simpa [List.getD_eq_getElem?_getD, h] using hb
theorem reach_no {slot : Int} {ds : List Dim} (h : slot < 0 ∨ 1073741824 < slot ∨ 4 < ds.length ∨ ∃ d ∈ ds, d.bad) : reachF slot ds = 0 := by
  unfold reachF; rw [if_pos h]
set_option maxHeartbeats 1000000 in
theorem reach_any (scope slot who ty : Int) (dims : Value) (ds : List Dim) (w : World) (hd : Sl w 3 Dim.enc dims ds) (hw : ∀ d ∈ ds, d.ok) :
    Calls Try.prog 10 #[.agg #[.int .i64 scope, .int .i64 slot, .int .i64 who, .int .i64 ty, dims]] w fun e w' => e = .returned (.int .i64 (reachF slot ds)) ∧ Below w.heap.size w w' := by
  obtain ⟨a, cap, rfl, hcap, hmax, hcell⟩ := hd
  unfold maxLen at hmax
  by_cases h1 : slot < 0
  · go_enter Try.func10, Try.ntmps10
    go_wp2
    go_ret
    exact ⟨reti (reach_no (.inl h1)).symm, by go_grown⟩
  by_cases h2 : 1073741824 < slot
  · go_enter Try.func10, Try.ntmps10
    go_wp2
    go_ret
    exact ⟨reti (reach_no (.inr (.inl h2))).symm, by go_grown⟩
  by_cases h3 : 4 < ds.length
  · go_enter Try.func10, Try.ntmps10
    go_wp2
    go_ret
    exact ⟨reti (reach_no (.inr (.inr (.inl h3)))).symm, by go_grown⟩
  have HC := Lib.hid hcell; clear hcell
  have HW := Lib.hid hw; clear hw
  have h3' : ds.length ≤ 4 := by omega
  go_enter Try.func10, Try.ntmps10
  go_wp2
  go_loopw [3, 26] (fun n i wr => ∃ k : Nat, k ≤ ds.length ∧ i = .int .i64 k ∧ n = .int .i64 (slot + 1 + ((ds.take k).map Dim.step).sum) ∧ (∀ d ∈ ds.take k, ¬ d.bad) ∧ Below w.heap.size w wr) (fun _ i _ => ds.length - (intOf i).toNat)
  case atStart => exact ⟨0, Nat.zero_le _, rfl, by simp, by simp, by go_grown⟩
  case round =>
    obtain ⟨k, hk, rfl, rfl, hok, hbw⟩ := hrel
    have hs := sum_bd hok
    rw [List.length_take] at hs
    have hsz := hbw.size
    have hs1 := hs.1
    have hs2 : ((ds.take k).map Dim.step).sum ≤ 4611686018427387904 := by omega
    clear hs
    by_cases hlt : k < ds.length
    · obtain ⟨b, off, rfl, hbs, hc⟩ := HC.out (by omega)
      have c0 := (hbw.cell (p := ⟨b, off + k * 3 + 0, none⟩) hbs).trans (hc k hlt 0 (by omega))
      have c1 := (hbw.cell (p := ⟨b, off + k * 3 + 1, none⟩) hbs).trans (hc k hlt 1 (by omega))
      have c2 := (hbw.cell (p := ⟨b, off + k * 3 + 2, none⟩) hbs).trans (hc k hlt 2 (by omega))
      clear hc
      have hm : ds.getD k default ∈ ds := by simp [List.getD_eq_getElem?_getD, hlt]
      obtain ⟨_, ⟨w1, w2⟩, w3, w4⟩ := HW.out _ hm
      have HS := Lib.hid (take_map_sum hlt)
      have HO := Lib.hid (take_ok hlt hok)
      clear hok
      have HM := Lib.hid hm; clear hm
      generalize ((ds.take k).map Dim.step).sum = sm at hs1 hs2 HS ⊢
      generalize ds.getD k default = d at *
      simp only [Dim.enc, Nat.add_zero] at c0 c1 c2
      by_cases hbad : d.bad
      · have HB := Lib.hid hbad
        unfold Dim.bad at hbad
        go_wp2
        all_goals first | (exfalso; omega) | (go_ret; exact ⟨reti (reach_no (.inr (.inr (.inr ⟨d, HM.out, HB.out⟩)))).symm, by go_grown⟩)
      · have hst := Dim.step_bd hbad
        have st1 := hst.1
        have st2 := hst.2
        clear hst
        have HB := Lib.hid hbad
        unfold Dim.bad at hbad
        have l1 : 1 ≤ d.len := by omega
        have l2 : d.len - 1 ≤ 1073741824 := by omega
        have l3 : 0 ≤ d.stride := by omega
        have l4 : d.stride ≤ 1073741824 := by omega
        clear hbad
        unfold Dim.step at st1 st2
        go_wp2
        go_roundw
        case rel =>
          refine ⟨k + 1, by omega, by go_num, ?_, HO.out HB.out, by go_grown⟩
          rw [HS.out]; unfold Dim.step; go_num
        case measure => simp [intOf]; omega
    · have hk' : k = ds.length := by omega
      subst hk'
      rw [List.take_length] at *
      go_wp2
      go_ret
      refine ⟨reti ?_, by go_grown⟩
      unfold reachF
      rw [if_neg (by
        rintro (h | h | h | ⟨d, hd, hb⟩)
        · omega
        · omega
        · omega
        · exact hok d hd hb)]
set_option maxHeartbeats 1000000 in
theorem rreach_any (scope slot who ty : Int) (dims : Value) (ds : List Dim) (w : World) (hd : Sl w 3 Dim.enc dims ds) (hw : ∀ d ∈ ds, d.ok) :
    Calls Try.prog 11 #[.agg #[.int .i64 scope, .int .i64 slot, .int .i64 who, .int .i64 ty, dims]] w fun e w' => e = .returned (.int .i64 (reachF slot ds)) ∧ Below w.heap.size w w' := by
  obtain ⟨a, cap, rfl, hcap, hmax, hcell⟩ := hd
  unfold maxLen at hmax
  by_cases h1 : slot < 0
  · go_enter Try.func11, Try.ntmps11
    go_wp2
    go_ret
    exact ⟨reti (reach_no (.inl h1)).symm, by go_grown⟩
  by_cases h2 : 1073741824 < slot
  · go_enter Try.func11, Try.ntmps11
    go_wp2
    go_ret
    exact ⟨reti (reach_no (.inr (.inl h2))).symm, by go_grown⟩
  by_cases h3 : 4 < ds.length
  · go_enter Try.func11, Try.ntmps11
    go_wp2
    go_ret
    exact ⟨reti (reach_no (.inr (.inr (.inl h3)))).symm, by go_grown⟩
  have HC := Lib.hid hcell; clear hcell
  have HW := Lib.hid hw; clear hw
  have h3' : ds.length ≤ 4 := by omega
  go_enter Try.func11, Try.ntmps11
  go_wp2
  go_loopw [3, 4] (fun n i wr => ∃ k : Nat, k ≤ ds.length ∧ i = .int .i64 k ∧ n = .int .i64 (slot + 1 + ((ds.take k).map Dim.step).sum) ∧ (∀ d ∈ ds.take k, ¬ d.bad) ∧ Below (w.heap.size + 1) (w.alloc (.cells #[.int .i64 scope, .int .i64 slot, .int .i64 who, .int .i64 ty, .slice a ds.length cap] 26)) wr) (fun _ i _ => ds.length - (intOf i).toNat)
  case atStart => exact ⟨0, Nat.zero_le _, rfl, by simp, by simp, Below.refl _ _⟩
  case round =>
    obtain ⟨k, hk, rfl, rfl, hok, hbx⟩ := hrel
    have hbw : Below w.heap.size w wr := ((Below.refl _ _).alloc (Nat.le_refl _) _).trans (hbx.mono (by omega))
    have hsz1 : w.heap.size + 1 ≤ wr.heap.size := by have := hbx.size; simp at this; omega
    have hx := hbx.cell (p := ⟨w.heap.size, 4, none⟩) (by simp)
    simp [go_sem] at hx
    have hs := sum_bd hok
    rw [List.length_take] at hs
    have hsz := hbw.size
    have hs1 := hs.1
    have hs2 : ((ds.take k).map Dim.step).sum ≤ 4611686018427387904 := by omega
    clear hs
    by_cases hlt : k < ds.length
    · obtain ⟨b, off, rfl, hbs, hc⟩ := HC.out (by omega)
      have c0 := (hbw.cell (p := ⟨b, off + k * 3 + 0, none⟩) hbs).trans (hc k hlt 0 (by omega))
      have c1 := (hbw.cell (p := ⟨b, off + k * 3 + 1, none⟩) hbs).trans (hc k hlt 1 (by omega))
      have c2 := (hbw.cell (p := ⟨b, off + k * 3 + 2, none⟩) hbs).trans (hc k hlt 2 (by omega))
      clear hc
      have hm : ds.getD k default ∈ ds := by simp [List.getD_eq_getElem?_getD, hlt]
      obtain ⟨_, ⟨w1, w2⟩, w3, w4⟩ := HW.out _ hm
      have HS := Lib.hid (take_map_sum hlt)
      have HO := Lib.hid (take_ok hlt hok)
      clear hok
      have HM := Lib.hid hm; clear hm
      generalize ((ds.take k).map Dim.step).sum = sm at hs1 hs2 HS ⊢
      generalize ds.getD k default = d at *
      simp only [Dim.enc, Nat.add_zero] at c0 c1 c2
      by_cases hbad : d.bad
      · have HB := Lib.hid hbad
        unfold Dim.bad at hbad
        go_wp2
        all_goals first | (exfalso; omega) | (go_ret; exact ⟨reti (reach_no (.inr (.inr (.inr ⟨d, HM.out, HB.out⟩)))).symm, by go_grown⟩)
      · have hst := Dim.step_bd hbad
        have st1 := hst.1
        have st2 := hst.2
        clear hst
        have HB := Lib.hid hbad
        unfold Dim.bad at hbad
        have l1 : 1 ≤ d.len := by omega
        have l2 : d.len - 1 ≤ 1073741824 := by omega
        have l3 : 0 ≤ d.stride := by omega
        have l4 : d.stride ≤ 1073741824 := by omega
        clear hbad
        unfold Dim.step at st1 st2
        go_wp2
        go_roundw
        case rel =>
          refine ⟨k + 1, by omega, by go_num, ?_, HO.out HB.out, by go_grown⟩
          rw [HS.out]; unfold Dim.step; go_num
        case measure => simp [intOf]; omega
    · have hk' : k = ds.length := by omega
      subst hk'
      rw [List.take_length] at *
      go_wp2
      go_ret
      refine ⟨reti ?_, by go_grown⟩
      unfold reachF
      rw [if_neg (by
        rintro (h | h | h | ⟨d, hd, hb⟩)
        · omega
        · omega
        · omega
        · exact hok d hd hb)]

set_option maxHeartbeats 1000000 in
theorem rfits_any (b : Int) (s : Bool) (v : Int) (w : World) :
    Calls Try.prog 9 #[.agg #[.int .i64 b, .bool s], .int .i64 v] w fun e w' => e = .returned (.bool (fitF b s v)) ∧ Below w.heap.size w w' := by
  by_cases ht : tyF b s = true
  · have hb : 1 ≤ b ∧ b ≤ 32 := by simp [tyF] at ht; omega
    obtain ⟨h1, h2⟩ := hb
    have HT := Lib.hid ht; clear ht
    cases s
    all_goals
      go_enter Try.func9, Try.ntmps9
      go_wp2_with fail
      refine (rtype_any _ _ _).mono ?_
      rintro e w1 ⟨rfl, hb1⟩
      have hc1 := bcell hb1
      have hz1 : w.heap.size < w1.heap.size := by have := hb1.size; simp at this; omega
      rw [HT.out]
      go_wp2
    · go_loop [6, 8] (fun m i => ∃ k : Nat, (k : Int) ≤ b ∧ i = .int .i64 k ∧ m = .int .i64 (2 ^ k)) (fun _ i => b.toNat - (intOf i).toNat)
      case atStart => exact ⟨0, by omega, rfl, by simp⟩
      case round =>
        obtain ⟨k, hk, rfl, rfl⟩ := hrel
        have pk := pow_bd k (by omega)
        have pk1 := pk.1
        have pk2 := pk.2
        clear pk
        by_cases hlt : (k : Int) < b
        · have HP : Hid ((2 : Int) ^ (k + 1) = 2 * 2 ^ k) := by unfold Hid; rw [Int.pow_succ]; omega
          go_wp2
          go_round
          case rel => exact ⟨k + 1, by omega, by go_num, by rw [HP.out]⟩
          case measure => simp [intOf]; omega
        · have hkb : b ≤ k := by omega
          have HE : Hid (b.toNat = k) := by unfold Hid; omega
          go_wp2
          all_goals
            go_ret
            refine ⟨retb ?_, ?_⟩
            · rw [fit_u HT.out, HE.out]
              refine Bool.eq_iff_iff.2 ?_
              simp <;> omega
            · exact ((Below.refl _ _).alloc (Nat.le_refl _) _).trans (hb1.mono (by simp))
    · go_loop [6, 8] (fun m i => ∃ k : Nat, (k : Int) ≤ b - 1 ∧ i = .int .i64 k ∧ m = .int .i64 (2 ^ k)) (fun _ i => b.toNat - (intOf i).toNat)
      case atStart => exact ⟨0, by omega, rfl, by simp⟩
      case round =>
        obtain ⟨k, hk, rfl, rfl⟩ := hrel
        have pk := pow_bd k (by omega)
        have pk1 := pk.1
        have pk2 := pk.2
        clear pk
        by_cases hlt : (k : Int) < b - 1
        · have HP : Hid ((2 : Int) ^ (k + 1) = 2 * 2 ^ k) := by unfold Hid; rw [Int.pow_succ]; omega
          go_wp2
          go_round
          case rel => exact ⟨k + 1, by omega, by go_num, by rw [HP.out]⟩
          case measure => simp [intOf]; omega
        · have hkb : b - 1 ≤ k := by omega
          have HE : Hid (b.toNat - 1 = k) := by unfold Hid; omega
          go_wp2
          all_goals
            go_ret
            refine ⟨retb ?_, ?_⟩
            · rw [fit_s HT.out, HE.out]
              refine Bool.eq_iff_iff.2 ?_
              simp <;> omega
            · exact ((Below.refl _ _).alloc (Nat.le_refl _) _).trans (hb1.mono (by simp))
  · have ht' : tyF b s = false := by simpa using ht
    go_enter Try.func9, Try.ntmps9
    go_wp2_with fail
    refine (rtype_any _ _ _).mono ?_
    rintro e w1 ⟨rfl, hb1⟩
    rw [ht']
    go_wp2
    go_ret
    exact ⟨retb (fit_no ht').symm, ((Below.refl _ _).alloc (Nat.le_refl _) _).trans (hb1.mono (by simp))⟩
end Go.Proofs.Ytblpajbacdbgpaa

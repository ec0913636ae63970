/- Part of the proof of SyntaxLooseCardSaid (H I J). -/
import Derived.Test.YthkebhjaaikopaaGreatDoorM01
import Derived.WalkSmall
import Derived.IntWalk
import Derived.Deep.QuietTactic
set_option maxHeartbeats 8000000
namespace Go.Proofs.YthkebhjaaikopaaGreatDoor
open Go.ChangeShapes Go.WideShapes Go.ChangeAt Go.RowKit Go.Deep Go.Joins Go.Instr
def bi (c a : Int) : Ending := .panicked [{ v := .iface 45 (.agg #[.int .i64 c, .int .i64 a]), recovered := false }]
theorem eU (E : aN) (s : St) (tv : TV) (w : World) (hE : ax E) (hp : PI E s tv w) :
 Calls Tryz.prog 21 #[.pointer (some ⟨E.pb, 0, none⟩)] w fun e w' => e = .returned (E.tk s.i).val ∧ Below w.heap.size w w' := by
 have c0 := hp.c0; obtain ⟨k0, k1, k2, k3, k4⟩ := hp.tok hE hp.i; have hlt : 0 < E.L.length - s.i := by have := hp.i; omega
 have htb := hp.tbLt; have hpb := hp.pbLt; clear hp hE; unfold ay.val; generalize E.L.length - s.i = n at *; generalize E.cap - s.i = c at *; generalize s.i * 5 = o at *; generalize E.tk s.i = x at *; obtain ⟨x0, x1, x2, x3, x4⟩ := x; simp only at *; go_enter Tryz.func21, Tryz.ntmps21; go_wp2; exact bodyPost_ret (v := .agg #[.int .i64 x0, .int .i64 x1, .int .i64 x2, .string x3, .int .i64 x4]) (by simp [results, Tryz.results21, go_sem]) rfl ⟨rfl, by go_grown⟩
theorem eC (E : aN) (s : St) (tv : TV) (w : World) (hE : ax E) (hp : PI E s tv w) :
 Calls Tryz.prog 99 #[.pointer (some ⟨E.pb, 0, none⟩)] w fun e w' => e = bi 9 (E.tk s.i).at1 ∧ w = w' := by
 have c0 := hp.c0; obtain ⟨k0, k1, k2, k3, k4⟩ := hp.tok hE hp.i; have hlt : 0 < E.L.length - s.i := by have := hp.i; omega
 have htb := hp.tbLt; have hpb := hp.pbLt; clear hp hE; generalize E.L.length - s.i = n at *; generalize E.cap - s.i = c at *; generalize s.i * 5 = o at *; generalize E.tk s.i = x at *; obtain ⟨x0, x1, x2, x3, x4⟩ := x; go_enter Tryz.func99, Tryz.ntmps99; go_wp2; exact ⟨rfl, rfl, rfl⟩
theorem j4 (E : aN) (s : St) (tv : TV) (n : Nat) (w : World) (hE : ax E) (hp : PI E s tv w) (hn : n ≤ 10) :
 Calls Tryz.prog 98 #[.pointer (some ⟨E.pb, 0, none⟩), .int .i64 n] w fun e w' => e = .returned (E.tk (bH E.K s n)).val ∧ Below w.heap.size w w' := by
 have c0 := hp.c0; have hi := hp.i; have hcap := hE.cap; have hcm := hE.capm; have hx : bH E.K s n < E.L.length := by unfold bH; rw [E.lenK]; omega
 obtain ⟨k0, k1, k2, k3, k4⟩ := hp.tok hE hx; have ho : s.i * 5 + min n (E.L.length - s.i - 1) * 5 = bH E.K s n * 5 := by unfold bH; rw [E.lenK]; omega
 have hlt : 0 < E.L.length - s.i := by omega
 have hm : E.L.length - s.i ≤ 1000000000 := by omega
 have htb := hp.tbLt; have hpb := hp.pbLt; have hmlt : min n (E.L.length - s.i - 1) < E.L.length - s.i := by omega
 rw [← ho] at k0 k1 k2 k3 k4; clear hp hE hx hi ho hcap hcm; unfold ay.val; generalize E.tk (bH E.K s n) = x at *; generalize E.L.length - s.i = m at *; generalize E.cap - s.i = c at *; generalize s.i * 5 = o at *; obtain ⟨q, hq⟩ : ∃ q, q = min n (m - 1) := ⟨_, rfl⟩; rw [← hq] at k0 k1 k2 k3 k4 hmlt; obtain ⟨x0, x1, x2, x3, x4⟩ := x; simp only at *
 by_cases hc : m - 1 < n
 · obtain rfl : m = q + 1 := by omega
   have h1 : (q : Int) < (n : Int) := by omega
   have h2 : (0 : Int) ≤ (q : Int) := by omega
   have h3 : (q : Int) < (q : Int) + 1 := by omega
   have h4 : IntKind.i64.wrap (q : Int) = (q : Int) := IntWalk.i64_in _ (by omega); clear hc hq hmlt hlt; go_enter Tryz.func98, Tryz.ntmps98; go_wp2; go_region; go_wp2; exact bodyPost_ret (v := .agg #[.int .i64 x0, .int .i64 x1, .int .i64 x2, .string x3, .int .i64 x4]) (by simp [results, Tryz.results98, go_sem]) rfl ⟨rfl, by go_grown⟩
 · obtain rfl : q = n := by omega
   have h1 : ¬ (m : Int) - 1 < (q : Int) := by omega
   have h2 : (0 : Int) ≤ (q : Int) := by omega
   have h3 : (q : Int) < (m : Int) := by omega
   have h4 : IntKind.i64.wrap ((m : Int) - 1) = (m : Int) - 1 := IntWalk.i64_in _ (by omega); clear hc hq hmlt hlt; go_enter Tryz.func98, Tryz.ntmps98; go_wp2; go_region; go_wp2; exact bodyPost_ret (v := .agg #[.int .i64 x0, .int .i64 x1, .int .i64 x2, .string x3, .int .i64 x4]) (by simp [results, Tryz.results98, go_sem]) rfl ⟨rfl, by go_grown⟩
theorem fR (E : aN) (s : St) (tv : TV) (w : World) (hE : ax E) (hp : PI E s tv w) :
 Calls Tryz.prog 45 #[.pointer (some ⟨E.pb, 0, none⟩)] w fun e w' => e = .returned (E.tk s.i).val ∧ PI E (aH E.K s) tv w' ∧ Fr E tv w tv w' := by
 have c0 := hp.c0; have hcap := hE.cap; have hcm := hE.capm; have HP := qd hp; have HE := qd hE; have hi := hp.i; obtain ⟨k0, k1, k2, k3, k4⟩ := hp.tok hE hp.i; have htb := hp.tbLt; have hpb := hp.pbLt; have hfr := hp.free 0; have hnt := hE.nt; have hlt : 0 < E.L.length - s.i := by omega
 obtain ⟨s1, hs1⟩ : ∃ s1, s1 = aH E.K s := ⟨_, rfl⟩; rw [← hs1]; have HS := qd hs1; clear hp hE hs1
 by_cases hc : s.i + 1 < E.L.length
 · have HSI : Hid (s1 = { s with i := s.i + 1 }) := by unfold Hid; rw [HS.out]; unfold aH; rw [E.lenK, if_pos hc]
   have HROW : Hid ((E.row s tv.v).setIfInBounds 0 (.slice (some ⟨E.tb, s.i * 5 + 5, none⟩) (E.L.length - s.i - 1) (E.cap - s.i - 1)) = E.row s1 tv.v) := by
    unfold Hid; rw [HSI.out]; unfold aN.row; simp; omega
   have HT : Hid (∀ W, Below w.heap.size w W → PI E s1 tv (W.setCell ⟨E.pb, 0, none⟩ (.slice (some ⟨E.tb, s.i * 5 + 5, none⟩) (E.L.length - s.i - 1) (E.cap - s.i - 1))) ∧ Fr E tv w tv (W.setCell ⟨E.pb, 0, none⟩ (.slice (some ⟨E.tb, s.i * 5 + 5, none⟩) (E.L.length - s.i - 1) (E.cap - s.i - 1)))) := fun W hW =>
    ⟨(HP.out.keep hW).set HE.out 0 _ HROW.out (by rw [HSI.out]) (by rw [HSI.out]; exact hc) (by rw [HSI.out]; exact HP.out.d0) (by rw [HSI.out]; exact HP.out.d1), (Fr.of_below hW).trans (Fr.set E tv W 0 _)⟩
   have h1 : (1 : Int) < ((E.L.length - s.i : Nat) : Int) := by omega
   have h2 : 1 ≤ E.L.length - s.i := by omega
   have h3 : E.L.length - s.i ≤ E.cap - s.i := by omega
   have h4 : ¬ E.cap - s.i = 1 := by omega
   unfold ay.val; clear hcap hi hc; generalize E.L.length - s.i = n at *; generalize E.cap - s.i = c at *; generalize s.i * 5 = o at *; generalize E.tk s.i = x at *; obtain ⟨x0, x1, x2, x3, x4⟩ := x; simp only at *; go_enter Tryz.func45, Tryz.ntmps45; go_wp2; have H2 := HT.out w br; exact bodyPost_ret (v := .agg #[.int .i64 x0, .int .i64 x1, .int .i64 x2, .string x3, .int .i64 x4]) (by simp [results, Tryz.results45, go_sem]) rfl ⟨rfl, H2.1.keep (by go_grown), H2.2.trans (Fr.of_below (by go_grown))⟩
 · have HSI : Hid (s1 = s) := by unfold Hid; rw [HS.out]; unfold aH; rw [E.lenK, if_neg hc]
   have h1 : E.L.length - s.i = 1 := by omega
   have h2 : ¬ (1 : Int) < ((E.L.length - s.i : Nat) : Int) := by omega
   unfold ay.val; rw [HSI.out]; clear hcap hi hc; rw [h1] at c0 h2 hlt; generalize E.cap - s.i = c at *; generalize s.i * 5 = o at *; generalize E.tk s.i = x at *; obtain ⟨x0, x1, x2, x3, x4⟩ := x; simp only at *; clear h1; go_enter Tryz.func45, Tryz.ntmps45; go_wp2; exact bodyPost_ret (v := .agg #[.int .i64 x0, .int .i64 x1, .int .i64 x2, .string x3, .int .i64 x4]) (by simp [results, Tryz.results45, go_sem]) rfl ⟨rfl, HP.out.keep (by go_grown), Fr.of_below (by go_grown)⟩
theorem sF (a : UInt8) : bits .or .u8 (a.toNat : Int) 32 = (((a ||| 32).toNat : Nat) : Int) := by
 have h : (List.range 256).all (fun n => bits .or .u8 ((UInt8.ofNat n).toNat : Int) 32 == (((UInt8.ofNat n ||| 32).toNat : Nat) : Int)) = true := by kernel_rfl
 have h2 := List.all_eq_true.1 h a.toNat (List.mem_range.2 a.toNat_lt); simpa using h2
theorem pH {t : ByteArray} (h : 0 < t.size) : nF t = ((decide ((97 : Int) ≤ bits .or .u8 (t[0].toNat : Int) 32) && decide (bits .or .u8 (t[0].toNat : Int) 32 ≤ 122)) || ((t[0].toNat : Int) == 95)) := by
 have h2 : t.data.getD 0 0 = t[0] := by
  show t.data.getD 0 0 = t.data[0]; simp [Array.getD, h]
 unfold nF; rw [h2, sF]; generalize t[0] = a; have e1 : decide ((97 : UInt8) ≤ (a ||| 32)) = decide ((97 : Int) ≤ (((a ||| 32).toNat : Nat) : Int)) := by
  rw [Bool.eq_iff_iff]; simp [UInt8.le_iff_toNat_le]; omega
 have e2 : decide ((a ||| 32) ≤ (122 : UInt8)) = decide ((((a ||| 32).toNat : Nat) : Int) ≤ (122 : Int)) := by
  rw [Bool.eq_iff_iff]; simp [UInt8.le_iff_toNat_le]; omega
 have e3 : (a == (95 : UInt8)) = ((a.toNat : Int) == 95) := by
  rw [Bool.eq_iff_iff]; simp [← UInt8.toNat_inj]; omega
 rw [e1, e2, e3]
theorem dV (x s : ByteArray) : (x.toList == s.toList) = ej x s := by
 unfold ej; rw [Bool.eq_iff_iff, beq_iff_eq, decide_eq_true_iff, ByteArray.toList_eq, ByteArray.toList_eq]; exact ⟨fun h => ByteArray.ext (Array.toList_inj.1 h), fun h => by rw [h]⟩
theorem tr (p : Nat) (n : Nat) (t : ByteArray) (w : World) (ht : 0 < t.size) (x0 x1 x2 : Int) (x3 : ByteArray) (x4 : Int) (h1 : (97 : Int) ≤ bits .or .u8 (t[0].toNat : Int) 32) (h2 : bits .or .u8 (t[0].toNat : Int) 32 ≤ 122)
 (HC : Hid (Calls Tryz.prog 98 #[.pointer (some ⟨p, 0, none⟩), .int .i64 n] w fun e w' => e = .returned (.agg #[.int .i64 x0, .int .i64 x1, .int .i64 x2, .string x3, .int .i64 x4]) ∧ Below w.heap.size w w')) :
 Calls Tryz.prog 44 #[.pointer (some ⟨p, 0, none⟩), .int .i64 n, .string t] w fun e w' => e = .returned (.bool (x0 == 1 && ej x3 t)) ∧ Below w.heap.size w w' := by
 by_cases hk : x0 = 1
 · go_enter Tryz.func44, Tryz.ntmps44; go_wp2_with fail; refine HC.out.mono ?_; rintro e w1 ⟨rfl, hb⟩; have HB := qd hb; clear hb; go_wp2_with fail; go_ret; exact ⟨cD (by first | exact dV x3 t | (rw [hk]; exact dV x3 t)), HB.out.trans (by have := HB.out.size; go_grown)⟩
 · have hk2 : (x0 == 1) = false := by simpa using hk
   go_enter Tryz.func44, Tryz.ntmps44; go_wp2_with fail; refine HC.out.mono ?_; rintro e w1 ⟨rfl, hb⟩; have HB := qd hb; clear hb; go_wp2_with fail; go_ret; exact ⟨cD (by first | rfl | (rw [hk2]; rfl)), HB.out.trans (by have := HB.out.size; go_grown)⟩
theorem tq (p : Nat) (n : Nat) (t : ByteArray) (w : World) (ht : 0 < t.size) (x0 x1 x2 : Int) (x3 : ByteArray) (x4 : Int) (h1 : bits .or .u8 (t[0].toNat : Int) 32 < 97) (h3 : ((t[0].toNat : Int) == 95) = true)
 (HC : Hid (Calls Tryz.prog 98 #[.pointer (some ⟨p, 0, none⟩), .int .i64 n] w fun e w' => e = .returned (.agg #[.int .i64 x0, .int .i64 x1, .int .i64 x2, .string x3, .int .i64 x4]) ∧ Below w.heap.size w w')) :
 Calls Tryz.prog 44 #[.pointer (some ⟨p, 0, none⟩), .int .i64 n, .string t] w fun e w' => e = .returned (.bool (x0 == 1 && ej x3 t)) ∧ Below w.heap.size w w' := by
 by_cases hk : x0 = 1
 · go_enter Tryz.func44, Tryz.ntmps44; go_wp2_with fail; refine HC.out.mono ?_; rintro e w1 ⟨rfl, hb⟩; have HB := qd hb; clear hb; go_wp2_with fail; go_ret; exact ⟨cD (by first | exact dV x3 t | (rw [hk]; exact dV x3 t)), HB.out.trans (by have := HB.out.size; go_grown)⟩
 · have hk2 : (x0 == 1) = false := by simpa using hk
   go_enter Tryz.func44, Tryz.ntmps44; go_wp2_with fail; refine HC.out.mono ?_; rintro e w1 ⟨rfl, hb⟩; have HB := qd hb; clear hb; go_wp2_with fail; go_ret; exact ⟨cD (by first | rfl | (rw [hk2]; rfl)), HB.out.trans (by have := HB.out.size; go_grown)⟩
theorem tp (p : Nat) (n : Nat) (t : ByteArray) (w : World) (ht : 0 < t.size) (x0 x1 x2 : Int) (x3 : ByteArray) (x4 : Int) (h1 : (97 : Int) ≤ bits .or .u8 (t[0].toNat : Int) 32) (h2 : 122 < bits .or .u8 (t[0].toNat : Int) 32) (h3 : ((t[0].toNat : Int) == 95) = true)
 (HC : Hid (Calls Tryz.prog 98 #[.pointer (some ⟨p, 0, none⟩), .int .i64 n] w fun e w' => e = .returned (.agg #[.int .i64 x0, .int .i64 x1, .int .i64 x2, .string x3, .int .i64 x4]) ∧ Below w.heap.size w w')) :
 Calls Tryz.prog 44 #[.pointer (some ⟨p, 0, none⟩), .int .i64 n, .string t] w fun e w' => e = .returned (.bool (x0 == 1 && ej x3 t)) ∧ Below w.heap.size w w' := by
 by_cases hk : x0 = 1
 · go_enter Tryz.func44, Tryz.ntmps44; go_wp2_with fail; refine HC.out.mono ?_; rintro e w1 ⟨rfl, hb⟩; have HB := qd hb; clear hb; go_wp2_with fail; go_ret; exact ⟨cD (by first | exact dV x3 t | (rw [hk]; exact dV x3 t)), HB.out.trans (by have := HB.out.size; go_grown)⟩
 · have hk2 : (x0 == 1) = false := by simpa using hk
   go_enter Tryz.func44, Tryz.ntmps44; go_wp2_with fail; refine HC.out.mono ?_; rintro e w1 ⟨rfl, hb⟩; have HB := qd hb; clear hb; go_wp2_with fail; go_ret; exact ⟨cD (by first | rfl | (rw [hk2]; rfl)), HB.out.trans (by have := HB.out.size; go_grown)⟩
theorem tn (p : Nat) (n : Nat) (t : ByteArray) (w : World) (ht : 0 < t.size) (x0 x1 x2 : Int) (x3 : ByteArray) (x4 : Int) (h1 : bits .or .u8 (t[0].toNat : Int) 32 < 97) (h3 : ((t[0].toNat : Int) == 95) = false)
 (HC : Hid (Calls Tryz.prog 98 #[.pointer (some ⟨p, 0, none⟩), .int .i64 n] w fun e w' => e = .returned (.agg #[.int .i64 x0, .int .i64 x1, .int .i64 x2, .string x3, .int .i64 x4]) ∧ Below w.heap.size w w')) :
 Calls Tryz.prog 44 #[.pointer (some ⟨p, 0, none⟩), .int .i64 n, .string t] w fun e w' => e = .returned (.bool (x0 == 4 && ej x3 t)) ∧ Below w.heap.size w w' := by
 by_cases hk : x0 = 4
 · go_enter Tryz.func44, Tryz.ntmps44; go_wp2_with fail; refine HC.out.mono ?_; rintro e w1 ⟨rfl, hb⟩; have HB := qd hb; clear hb; go_wp2_with fail; go_ret; exact ⟨cD (by first | exact dV x3 t | (rw [hk]; exact dV x3 t)), HB.out.trans (by have := HB.out.size; go_grown)⟩
 · have hk2 : (x0 == 4) = false := by simpa using hk
   go_enter Tryz.func44, Tryz.ntmps44; go_wp2_with fail; refine HC.out.mono ?_; rintro e w1 ⟨rfl, hb⟩; have HB := qd hb; clear hb; go_wp2_with fail; go_ret; exact ⟨cD (by first | rfl | (rw [hk2]; rfl)), HB.out.trans (by have := HB.out.size; go_grown)⟩
theorem tm (p : Nat) (n : Nat) (t : ByteArray) (w : World) (ht : 0 < t.size) (x0 x1 x2 : Int) (x3 : ByteArray) (x4 : Int) (h1 : (97 : Int) ≤ bits .or .u8 (t[0].toNat : Int) 32) (h2 : 122 < bits .or .u8 (t[0].toNat : Int) 32) (h3 : ((t[0].toNat : Int) == 95) = false)
 (HC : Hid (Calls Tryz.prog 98 #[.pointer (some ⟨p, 0, none⟩), .int .i64 n] w fun e w' => e = .returned (.agg #[.int .i64 x0, .int .i64 x1, .int .i64 x2, .string x3, .int .i64 x4]) ∧ Below w.heap.size w w')) :
 Calls Tryz.prog 44 #[.pointer (some ⟨p, 0, none⟩), .int .i64 n, .string t] w fun e w' => e = .returned (.bool (x0 == 4 && ej x3 t)) ∧ Below w.heap.size w w' := by
 by_cases hk : x0 = 4
 · go_enter Tryz.func44, Tryz.ntmps44; go_wp2_with fail; refine HC.out.mono ?_; rintro e w1 ⟨rfl, hb⟩; have HB := qd hb; clear hb; go_wp2_with fail; go_ret; exact ⟨cD (by first | exact dV x3 t | (rw [hk]; exact dV x3 t)), HB.out.trans (by have := HB.out.size; go_grown)⟩
 · have hk2 : (x0 == 4) = false := by simpa using hk
   go_enter Tryz.func44, Tryz.ntmps44; go_wp2_with fail; refine HC.out.mono ?_; rintro e w1 ⟨rfl, hb⟩; have HB := qd hb; clear hb; go_wp2_with fail; go_ret; exact ⟨cD (by first | rfl | (rw [hk2]; rfl)), HB.out.trans (by have := HB.out.size; go_grown)⟩
theorem bK (E : aN) (s : St) (tv : TV) (n : Nat) (t : ByteArray) (w : World) (hE : ax E) (hp : PI E s tv w) (hn : n ≤ 10) (ht : 0 < t.size) :
 Calls Tryz.prog 44 #[.pointer (some ⟨E.pb, 0, none⟩), .int .i64 n, .string t] w fun e w' => e = .returned (.bool (aJ E.K n t s)) ∧ Below w.heap.size w w' := by
 have HC := qd (j4 E s tv n w hE hp hn); have hx : bH E.K s n < E.L.length := by have := hp.i; unfold bH; rw [E.lenK]; omega
 have HS : aJ E.K n t s = ((E.tk (bH E.K s n)).kind == iL t && ej (E.tk (bH E.K s n)).text t) := by
  unfold aJ; rw [E.tok hx]; rfl
 have hw := pH ht; rw [HS]; unfold ay.val at HC; unfold iL; rw [hw]
 by_cases h1 : (97 : Int) ≤ bits .or .u8 (t[0].toNat : Int) 32
 · by_cases h2 : bits .or .u8 (t[0].toNat : Int) 32 ≤ 122
   · rw [if_pos (by simp [h1, h2])]; exact tr _ _ _ _ ht _ _ _ _ _ h1 h2 HC
   · by_cases h3 : ((t[0].toNat : Int) == 95) = true
     · rw [if_pos (by rw [h3]; simp)]; exact tp _ _ _ _ ht _ _ _ _ _ h1 (by omega) h3 HC
     · have h3' : ((t[0].toNat : Int) == 95) = false := by simpa using h3
       rw [if_neg (by rw [h3']; simp [h2])]; exact tm _ _ _ _ ht _ _ _ _ _ h1 (by omega) h3' HC
 · by_cases h3 : ((t[0].toNat : Int) == 95) = true
   · rw [if_pos (by rw [h3]; simp)]; exact tq _ _ _ _ ht _ _ _ _ _ (by omega) h3 HC
   · have h3' : ((t[0].toNat : Int) == 95) = false := by simpa using h3
     rw [if_neg (by rw [h3']; simp [h1])]; exact tn _ _ _ _ ht _ _ _ _ _ (by omega) h3' HC
def aQ {α : Type} (E : aN) (tv : TV) (w : World) (val : α → Value) (r : R α) (e : Ending) (w' : World) : Prop :=
 match r with
 | .ok a s' => e = .returned (val a) ∧ ∃ tv', PI E s' tv' w' ∧ Fr E tv w tv' w'
 | .err c p => e = bi c (E.tk p).at1 ∧ ∃ tv', Fr E tv w tv' w'
 | .stuck => False
def dn {α : Type} (E : aN) (hs : Nat → Prop) (tv : TV) (w : World) (val : α → Value) (r : R α) (e : Ending) (w' : World) : Prop :=
 match r with
 | .ok a s' => e = .returned (val a) ∧ ∃ tv', PI E s' tv' w' ∧ gh E hs tv w tv' w'
 | .err c p => e = bi c (E.tk p).at1 ∧ ∃ tv', gh E hs tv w tv' w'
 | .stuck => False
theorem gh.any {E : aN} {hs : Nat → Prop} {tv tv' : TV} {w w' : World} (h : Fr E tv w tv' w') : gh E hs tv w tv' w' := ⟨h.out, h.tvb, fun g hg => by
 rcases h.ks g hg with h1 | h1 | h1
 · exact .inl h1
 · exact .inr (.inl h1)
 · exact h1.elim⟩
theorem gh.after {E : aN} {hs : Nat → Prop} {ta tb tc : TV} {a b c : World} (h : Fr E ta a tb b) (k : gh E hs tb b tc c) : gh E hs ta a tc c := by
 have e : Fr E ta a ⟨tc.v, tb.ks⟩ c := h.trans ⟨k.out, k.tvb, fun g hg => .inl hg⟩; exact ⟨e.out, e.tvb, fun g hg => by
  rcases k.ks g hg with h1 | h1 | h1
  · rcases h.ks g h1 with h2 | h2 | h2
    · exact .inl h2
    · exact .inr (.inl h2)
    · exact h2.elim
  · exact .inr (.inl (Nat.le_trans h.out.size h1))
  · exact .inr (.inr h1)⟩
theorem dn.close {α : Type} {E : aN} {hs : Nat → Prop} {tv tv1 : TV} {w w1 w' : World} {val : α → Value} {r : R α} {e : Ending} (hf : Fr E tv w tv1 w1) (h : dn E hs tv1 w1 val r e w') (hh : ∀ g, hs g → w.heap.size ≤ g) : aQ E tv w val r e w' := by
 unfold aQ; unfold dn at h; cases r with
 | ok a s' =>
   obtain ⟨h1, tv', h2, h3⟩ := h; exact ⟨h1, tv', h2, gh.close hf h3 hh⟩
 | err c p =>
   obtain ⟨h1, tv', h2⟩ := h; exact ⟨h1, tv', gh.close hf h2 hh⟩
 | stuck => exact h
theorem aQ.mk {α : Type} {E : aN} {tv : TV} {w : World} {val : α → Value} {a : α} {s' : St} {w' : World} {tv' : TV} (h1 : PI E s' tv' w') (h2 : Fr E tv w tv' w') : aQ E tv w val (.ok a s') (.returned (val a)) w' := ⟨rfl, tv', h1, h2⟩
def iy (t : ByteArray) : Nat → Value := fun _ => .string t
def cl : Option Nat → Value
 | some i => .int .i64 i
 | none => .int .i64 (-1)
theorem jz {K : List KT} {s : St} : ∀ {l : List ByteArray} {k : Nat}, k < l.length → (∀ j, j < k → aJ K 0 (l.getD j default) s = false) → aJ K 0 (l.getD k default) s = true → bN K s l = some k
 | a :: l, 0, _, _, h => by
   have h : aJ K 0 a s = true := h; simp [bN, h]
 | a :: l, k + 1, hk, hb, h => by
   have h0 : aJ K 0 a s = false := hb 0 (by omega); have := jz (l := l) (k := k) (by simpa using hk) (fun j hj => hb (j + 1) (by omega)) h; simp [bN, h0, this]
theorem gG {K : List KT} {s : St} : ∀ {l : List ByteArray}, (∀ j, j < l.length → aJ K 0 (l.getD j default) s = false) → bN K s l = none
 | [], _ => rfl
 | a :: l, h => by
   have h0 : aJ K 0 a s = false := h 0 (by simp); have := gG (l := l) (fun j hj => h (j + 1) (by simpa using hj)); simp [bN, h0, this]
theorem bj (E : aN) (s : St) (tv : TV) (v : Value) (l : List ByteArray) (w : World) (hE : ax E) (hp : PI E s tv w) (hv : Sl w 1 iy v l) (hl : ∀ t ∈ l, 0 < t.size) :
 Calls Tryz.prog 22 #[.pointer (some ⟨E.pb, 0, none⟩), v] w (aQ E tv w cl (takes E.K l s)) := by
 obtain ⟨a, c, rfl, ml, HX⟩ := aV hv; have HP := qd hp; have HE := qd hE; have HL := qd hl; clear hp hE hl hv; obtain ⟨PP, hPP⟩ : ∃ PP, PP = aQ E tv w cl (takes E.K l s) := ⟨_, rfl⟩; rw [← hPP]; have HPP := qd hPP; clear hPP; go_enter Tryz.func22, Tryz.ntmps22; go_wp2_with fail
 go_loopw [9] (fun ii wr => ∃ k : Nat, k ≤ l.length ∧ ii = .int .i64 k ∧ Hid (Below w.heap.size w wr) ∧ Hid (∀ j, j < k → aJ E.K 0 (l.getD j default) s = false)) (fun ii _ => l.length - (intOf ii).toNat)
 case atStart => exact ⟨0, Nat.zero_le _, rfl, Below.refl _ _, fun j hj => absurd hj (by omega)⟩
 case round =>
  obtain ⟨k, hk, rfl, hb, hno⟩ := hrel
  by_cases hlt : k < l.length
  · obtain ⟨b, o, rfl, hbl, hcell⟩ := HX.out (by omega); have hwr := hb.out.size; have e0 := (hb.out.cell (p := ⟨b, o + k * 1 + 0, none⟩) hbl).trans (hcell k hlt 0 (by omega)); have hbr : b < wr.heap.size := by omega
    simp only [iy, Nat.mul_one, Nat.add_zero] at e0; have hk0 : (0 : Int) ≤ (k : Int) := by omega
    have hk1 : (k : Int) < (l.length : Int) := by omega
    have HT : Hid (0 < (l.getD k default).size) := HL.out _ (by rw [List.getD_eq_getElem?_getD, List.getElem?_eq_getElem hlt]; simp); have HS := qd (bK E s tv 0 (l.getD k default) wr HE.out (HP.out.keep hb.out) (by omega) HT.out); obtain ⟨r, HR⟩ : ∃ r, Hid (aJ E.K 0 (l.getD k default) s = r) := ⟨_, rfl⟩; rw [HR.out] at HS; obtain ⟨t, HTT⟩ : ∃ t, Hid (l.getD k default = t) := ⟨_, rfl⟩; rw [HTT.out] at e0 HS; clear hcell; cases r with
    | false =>
      go_wp2_with fail; refine HS.out.mono ?_; rintro e w2 ⟨rfl, hb2⟩; have HB2 : Hid (Below w.heap.size w w2) := hb.out.trans (hb2.mono hb.out.size); clear hb2; go_wp2_with fail; go_roundw
      case rel => exact ⟨k + 1, by omega, by go_num, HB2, fun j hj => by
       by_cases h : j = k
       · subst h; exact HR.out
       · exact hno.out j (by omega)⟩
      case measure => simp [intOf]; omega
    | true =>
      go_wp2_with fail; refine HS.out.mono ?_; rintro e w2 ⟨rfl, hb2⟩; have HB2 : Hid (Below w.heap.size w w2) := hb.out.trans (hb2.mono hb.out.size); clear hb2; go_wp2_with fail; refine (fR E s tv w2 HE.out (HP.out.keep HB2.out)).mono ?_; rintro e w3 ⟨rfl, hp3, hf3⟩; have HP3 := qd hp3; have HF3 := qd hf3; clear hp3 hf3; go_wp2_with fail; rw [HPP.out]; unfold takes; rw [jz hlt hno.out HR.out]; exact ⟨rfl, tv, HP3.out, (Fr.of_below HB2.out).trans HF3.out⟩
  · obtain rfl : k = l.length := by omega
    go_wp2_with fail; rw [HPP.out]; unfold takes; rw [gG hno.out]; exact ⟨rfl, tv, HP.out.keep hb.out, Fr.of_below hb.out⟩
theorem aQ.from {α : Type} {E : aN} {tv : TV} {w0 w w' : World} {val : α → Value} {r : R α} {e : Ending} (hb : Below w0.heap.size w0 w) (h : aQ E tv w val r e w') : aQ E tv w0 val r e w' := by
 unfold aQ at *; cases r with
 | ok a s' =>
   obtain ⟨h1, tv', h2, h3⟩ := h; exact ⟨h1, tv', h2, (Fr.of_below hb).trans h3⟩
 | err c p =>
   obtain ⟨h1, tv', h2⟩ := h; exact ⟨h1, tv', (Fr.of_below hb).trans h2⟩
 | stuck => exact h
theorem cI (w : World) (l : List ByteArray) (cs : Array Value) (n b : Nat) (hc : cs = (l.map Value.string).toArray) (hn : n = l.length) (hb : b = w.heap.size) (hm : l.length ≤ 100) : Sl (w.alloc (.cells cs 9)) 1 iy (.slice (some ⟨b, 0, none⟩) n n) l := by
 subst hc hn hb; refine ⟨_, _, rfl, Nat.le_refl _, by unfold maxLen; omega, fun _ => ⟨_, _, rfl, by simp, fun i hi j hj => ?_⟩⟩; obtain rfl : j = 0 := by omega
 have h : (w.alloc (.cells (l.map Value.string).toArray 9)).heap[w.heap.size]? = some (.cells (l.map Value.string).toArray 9) := al w _; simp only [World.cell?, h]; simp [iy, hi, List.getD_eq_getElem?_getD]
theorem mR {K : List KT} {t : ByteArray} {s : St} : takes K [t] s = if aJ K 0 t s = true then .ok (some 0) (aH K s) else .ok none s := by
 unfold takes bN bN
 by_cases h : aJ K 0 t s = true
 · simp [h]
 · simp [h]
theorem eR (E : aN) (s : St) (tv : TV) (t : ByteArray) (w : World) (hE : ax E) (hp : PI E s tv w) (ht : 0 < t.size) :
 Calls Tryz.prog 46 #[.pointer (some ⟨E.pb, 0, none⟩), .string t] w (aQ E tv w (fun _ => .tuple #[]) (must E.K t s)) := by
 have HP := qd hp; have HE := qd hE; have HT : Hid (∀ x ∈ [t], 0 < x.size) := fun x hx => by rw [List.mem_singleton.1 hx]; exact ht
 clear hp hE ht; have hg : Hid (∀ o : Obj, Below w.heap.size w (w.alloc o)) := fun o => br.alloc (Nat.le_refl _) _
 obtain ⟨b, HB⟩ : ∃ b, Hid (aJ E.K 0 t s = b) := ⟨_, rfl⟩; obtain ⟨PP, hPP⟩ : ∃ PP, PP = aQ E tv w (fun _ => .tuple #[]) (must E.K t s) := ⟨_, rfl⟩; rw [← hPP]; have HPP := qd hPP; clear hPP; go_enter Tryz.func46, Tryz.ntmps46; go_wp2_with fail; refine (bj E s tv _ [t] _ HE.out (HP.out.keep (hg.out _)) (cI w [t] _ _ _ rfl rfl rfl (by simp)) HT.out).mono ?_; rintro e w1 hpost; rw [mR, HB.out] at hpost; cases b with
 | true =>
   obtain ⟨rfl, tv1, hp1, hf1⟩ := hpost; have HP1 := qd hp1; have HF1 := qd hf1; clear hp1 hf1; simp only [cl]; go_wp2_with fail; refine bodyPost_ret (v := .tuple #[]) (by simp [results, Tryz.results46, go_sem]) rfl ?_; rw [HPP.out]; unfold must; rw [HB.out, if_pos rfl]; exact ⟨rfl, tv1, HP1.out, (Fr.of_below (hg.out _)).trans HF1.out⟩
 | false =>
   obtain ⟨rfl, tv1, hp1, hf1⟩ := hpost; have HP1 := qd hp1; have HF1 := qd hf1; clear hp1 hf1; simp only [cl]; go_wp2_with fail; refine (eC E s tv1 w1 HE.out HP1.out).mono ?_; rintro e w2 ⟨rfl, rfl⟩; unfold bi; go_wp2_with fail; refine ⟨rfl, ?_⟩; rw [HPP.out]; unfold must; rw [HB.out, if_neg (by simp)]; exact ⟨rfl, tv1, (Fr.of_below (hg.out _)).trans HF1.out⟩
theorem ui (w : World) (n : Nat) : (w.drewN n).heap = w.heap := rfl
theorem rt {w W : World} {b : Nat} (h : Below b w W) (n : Nat) : Below b w (W.drewN n) := ⟨h.os, h.tape, h.output, h.size, h.block⟩
theorem fS (E : aN) (s : St) (tv : TV) (n : Nat) (w : World) (hE : ax E) (hp : PI E s tv w) (hn : n ≤ 10) :
 Calls Tryz.prog 51 #[.pointer (some ⟨E.pb, 0, none⟩), .int .i64 n] w fun e w' => e = .returned (.bool (cZ E.K n s)) ∧ Below w.heap.size w w' := by
 have HC := qd (j4 E s tv n w hE hp hn); have hx : bH E.K s n < E.L.length := by have := hp.i; unfold bH; rw [E.lenK]; omega
 have HS : cZ E.K n s = ((E.tk (bH E.K s n)).kind == 1 && !fs bE (E.tk (bH E.K s n)).text) := by
  unfold cZ cO; rw [E.tok hx]; rfl
 rw [HS]; have HP := qd hp; have HE := qd hE; clear HS hp hE hx; unfold ay.val at HC; generalize E.tk (bH E.K s n) = x at *; obtain ⟨x0, x1, x2, x3, x4⟩ := x; simp only at *
 by_cases hk : x0 = 1
 all_goals
  go_enter Tryz.func51, Tryz.ntmps51; go_wp2_with fail; refine HC.out.mono ?_; rintro e w1 ⟨rfl, hb⟩; have HB := qd hb; clear hb; go_wp2_with fail; generalize hW1 : World.alloc w1 _ = W1; have hg : Below w1.heap.size w1 W1 := by rw [← hW1]; go_grown
  have hs1 : w1.heap.size < W1.heap.size := by rw [← hW1]; simp [go_sem]
  have t0 : W1.cell? ⟨w1.heap.size, 0, none⟩ = some (.int .i64 x0) := by rw [← hW1]; simp [go_sem, hk]
  have t3 : W1.cell? ⟨w1.heap.size, 3, none⟩ = some (.string x3) := by rw [← hW1]; simp [go_sem]
  have HG : Hid (Below w.heap.size w W1) := HB.out.trans (hg.mono HB.out.size); clear hW1 hg; have hp1 := HP.out.keep HG.out; have hlk := fun n => HE.out.words (W1.drewN n) x3 (by rw [ui]; exact hp1.m)
  have c2 := hp1.c2; clear hp1
 · have hk1 : ((1 : Int) == 1) = true := rfl; subst hk
   go_quiet (fail)
   go_wp2; go_ret; exact ⟨cD rfl, rt HG.out _⟩
 · have hk1 : (x0 == 1) = false := by simpa using hk
   go_quiet (fail)
   go_wp2; go_ret; exact ⟨cD (by first | rfl | (rw [hk1]; rfl)), rt HG.out _⟩
theorem tI (w : World) (q : Nat) (c0 c1 c2 c3 c4 v0 v1 v2 v3 v4 : Value) (h : w.heap[q]? = some (.cells #[c0, c1, c2, c3, c4] 31 (0, 0))) :
 (((((w.setCell ⟨q, 0, none⟩ v0).setCell ⟨q, 1, none⟩ v1).setCell ⟨q, 2, none⟩ v2).setCell ⟨q, 3, none⟩ v3).setCell ⟨q, 4, none⟩ v4).heap[q]? = some (.cells #[v0, v1, v2, v3, v4] 31 (0, 0)) ∧ am (fun k => k = q) w (((((w.setCell ⟨q, 0, none⟩ v0).setCell ⟨q, 1, none⟩ v1).setCell ⟨q, 2, none⟩ v2).setCell ⟨q, 3, none⟩ v3).setCell ⟨q, 4, none⟩ v4) := by
 have h0 := heap_setCell_same w q 0 _ 31 v0 h; have h1 := heap_setCell_same _ q 1 _ 31 v1 h0; have h2 := heap_setCell_same _ q 2 _ 31 v2 h1; have h3 := heap_setCell_same _ q 3 _ 31 v3 h2; have h4 := heap_setCell_same _ q 4 _ 31 v4 h3; refine ⟨h4.trans rfl, ?_⟩; have o0 := am.setCell (p := ⟨q, 0, none⟩) (am.refl (fun k => k = q) w) (.inl rfl) v0; have o1 := am.setCell (p := ⟨q, 1, none⟩) o0 (.inl rfl) v1; have o2 := am.setCell (p := ⟨q, 2, none⟩) o1 (.inl rfl) v2; have o3 := am.setCell (p := ⟨q, 3, none⟩) o2 (.inl rfl) v3; exact am.setCell (p := ⟨q, 4, none⟩) o3 (.inl rfl) v4
theorem PI.outs {E : aN} {s s0 : St} {tv tv0 : TV} {w0 w w' : World} {q : Nat} {cs : Array Value} {e : TypeId} (h : PI E s tv w) (h0 : PI E s0 tv0 w0) (hq : w0.heap.size ≤ q) (ht : tv.v.ownBlock ≠ some q) (hb : w.heap[q]? = some (.cells cs e (0, 0))) (h3 : e ≠ 3) (ho : am (fun k => k = q) w w') : PI E s tv w' := by
 obtain ⟨T, a1, a2, a3⟩ := h.tree; have n1 := af h0.p; have n2 := af h0.t; have n3 := af h0.m; have n4 := af h0.k; have n5 := af h0.a; exact ⟨(ho.block _ (af h.p) (by omega)).trans h.p, (ho.block _ (af h.t) (by omega)).trans h.t, (ho.block _ (af h.m) (by omega)).trans h.m, (ho.block _ (af h.k) (by omega)).trans h.k, (ho.block _ (af h.a) (by omega)).trans h.a,
  ⟨T, a1, bS a2 ho (fun g hg hS => ht (by rw [hg, hS])), fun t htm => ⟨bS (a3 t htm).1 ho (fun g hg hS => dl (a3 t htm).1 hb (Ne.symm h3) (by rw [hg, hS])), (a3 t htm).2⟩⟩, h.i, h.d0, h.d1, h.len, h.low.trans (ho.below h.bl (fun k hk => by have := h0.bl; have : k = q := hk; omega)), Nat.le_trans h.bl ho.size, fun g hg => Nat.lt_of_lt_of_le (h.kslt g hg) ho.size⟩
theorem Fr.outs {E : aN} {tv tv0 : TV} {w0 w w' : World} {q : Nat} (h : Fr E tv0 w0 tv w) (hq : w0.heap.size ≤ q) (ho : am (fun k => k = q) w w') : Fr E tv0 w0 tv w' :=
 ⟨h.out.trans ho (fun x hx => .inr (by have : x = q := hx; omega)), h.tvb, h.ks⟩
theorem Fr.keep {E : aN} {tv tv' : TV} {w w' : World} {q : Nat} {o : Obj} (h : Fr E tv w tv' w') (hb : w.heap[q]? = some o) (hp : q ≠ E.pb) (ht : tv.v.ownBlock ≠ some q) : w'.heap[q]? = some o ∧ tv'.v.ownBlock ≠ some q :=
 ⟨(h.out.block q (af hb) (fun h => by
   rcases h with h | h
   · exact hp h
   · exact ht h)).trans hb, fun e => by
   rcases h.tvb q e with h1 | h1
   · exact ht h1
   · have := af hb; omega⟩
theorem PI.tvlt {E : aN} {s : St} {tv : TV} {w : World} (h : PI E s tv w) {q : Nat} (hq : w.heap.size ≤ q) : tv.v.ownBlock ≠ some q := fun e => by
 obtain ⟨T, -, hT, -⟩ := h.tree; have := (hT.lt _ e).2; omega
theorem jP (E : aN) (s : St) (tv : TV) (w : World) (hE : ax E) (hp : PI E s tv w) :
 Calls Tryz.prog 49 #[.pointer (some ⟨E.pb, 0, none⟩)] w (aQ E tv w (fun i => (E.tk i).val) (ident E.K s)) := by
 have HP := qd hp; have HE := qd hE; clear hp hE; obtain ⟨b, HB⟩ : ∃ b, Hid (cZ E.K 0 s = b) := ⟨_, rfl⟩; obtain ⟨PP, hPP⟩ : ∃ PP, PP = aQ E tv w (fun i => (E.tk i).val) (ident E.K s) := ⟨_, rfl⟩; rw [← hPP]; have HPP := qd hPP; clear hPP; go_enter Tryz.func49, Tryz.ntmps49; go_wp2_with fail; generalize hW0 : World.alloc w _ = W0; have hb0 : W0.heap[w.heap.size]? = some (.cells #[.int .i64 0, .int .i64 0, .int .i64 0, .string ⟨#[]⟩, .int .i64 0] 31 (0, 0)) := by rw [← hW0]; exact al w _
 have HB0 := qd hb0; have HG : Hid (Below w.heap.size w W0) := by rw [← hW0]; exact br.alloc (Nat.le_refl _) _
 clear hW0 hb0; refine (fS E s tv 0 W0 HE.out (HP.out.keep HG.out) (by omega)).mono ?_; rintro e w1 ⟨rfl, hb1⟩; rw [HB.out]; have HG1 := qd hb1; have HP1 := qd ((HP.out.keep HG.out).keep hb1); clear hb1; cases b with
 | true =>
   go_wp2_with fail; refine (fR E s tv w1 HE.out HP1.out).mono ?_; rintro e w2 ⟨rfl, hp2, hf2⟩; have HP2 := qd hp2; have HF2 := qd hf2; obtain ⟨hB2, hq2⟩ := hf2.keep ((HG1.out.block _ (af HB0.out)).trans HB0.out) (fun e => by have := HP.out.pbLt; omega) (HP.out.tvlt (Nat.le_refl _)); have HB2 := qd hB2; have HQ2 := qd hq2; have u0 : w2.cell? ⟨w.heap.size, 0, none⟩ = some (.int .i64 0) := (cell_of_row w2 _ 0 _ _ _ hB2).trans rfl; have u1 : w2.cell? ⟨w.heap.size, 1, none⟩ = some (.int .i64 0) := (cell_of_row w2 _ 1 _ _ _ hB2).trans rfl; have u2 : w2.cell? ⟨w.heap.size, 2, none⟩ = some (.int .i64 0) := (cell_of_row w2 _ 2 _ _ _ hB2).trans rfl; have u3 : w2.cell? ⟨w.heap.size, 3, none⟩ = some (.string ⟨#[]⟩) := (cell_of_row w2 _ 3 _ _ _ hB2).trans rfl; have u4 : w2.cell? ⟨w.heap.size, 4, none⟩ = some (.int .i64 0) := (cell_of_row w2 _ 4 _ _ _ hB2).trans rfl; have f0 := frozen_of_row w2 w.heap.size 0 _ _ hB2; have f1 := frozen_of_row w2 w.heap.size 1 _ _ hB2; have f2 := frozen_of_row w2 w.heap.size 2 _ _ hB2; have f3 := frozen_of_row w2 w.heap.size 3 _ _ hB2; have f4 := frozen_of_row w2 w.heap.size 4 _ _ hB2; obtain ⟨x, HX⟩ : ∃ x, Hid (E.tk s.i = x) := ⟨_, rfl⟩; rw [HX.out]; obtain ⟨x0, x1, x2, x3, x4⟩ := x; unfold ay.val; clear hp2 hf2 hB2 hq2; go_wp2_with fail; generalize hWF : World.setCell _ ⟨w.heap.size, 4, none⟩ _ = WF; obtain ⟨hF, hO⟩ := tI w2 w.heap.size _ _ _ _ _ (.int .i64 x0) (.int .i64 x1) (.int .i64 x2) (.string x3) (.int .i64 x4) HB2.out; rw [hWF] at hF hO; clear hWF u0 u1 u2 u3 u4 f0 f1 f2 f3 f4; have c0 : WF.cell? ⟨w.heap.size, 0, none⟩ = some (.int .i64 x0) := (cell_of_row WF _ 0 _ _ _ hF).trans rfl; have c1 : WF.cell? ⟨w.heap.size, 1, none⟩ = some (.int .i64 x1) := (cell_of_row WF _ 1 _ _ _ hF).trans rfl; have c2 : WF.cell? ⟨w.heap.size, 2, none⟩ = some (.int .i64 x2) := (cell_of_row WF _ 2 _ _ _ hF).trans rfl; have c3 : WF.cell? ⟨w.heap.size, 3, none⟩ = some (.string x3) := (cell_of_row WF _ 3 _ _ _ hF).trans rfl; have c4 : WF.cell? ⟨w.heap.size, 4, none⟩ = some (.int .i64 x4) := (cell_of_row WF _ 4 _ _ _ hF).trans rfl; refine bodyPost_ret (v := .agg #[.int .i64 x0, .int .i64 x1, .int .i64 x2, .string x3, .int .i64 x4]) (by simp [results, Tryz.results49, go_sem, c0, c1, c2, c3, c4]) rfl ?_; rw [HPP.out]; unfold ident; rw [HB.out, if_pos rfl]; refine ⟨?_, tv, HP2.out.outs HP.out (Nat.le_refl _) HQ2.out HB2.out (by decide) hO, Fr.outs ((Fr.of_below (HG.out.trans (HG1.out.mono HG.out.size))).trans HF2.out) (Nat.le_refl _) hO⟩; show Ending.returned _ = Ending.returned (E.tk s.i).val; rw [HX.out]; rfl
 | false =>
   go_wp2_with fail; refine (eC E s tv w1 HE.out HP1.out).mono ?_; rintro e w2 ⟨rfl, rfl⟩; unfold bi; go_wp2_with fail; refine ⟨rfl, ?_⟩; rw [HPP.out]; unfold ident; rw [HB.out, if_neg (by simp)]; exact ⟨rfl, tv, (Fr.of_below HG.out).trans (Fr.of_below HG1.out)⟩
theorem sw (x0 x1 x2 : Int) (x3 : ByteArray) (x4 : Int) (W : World) : (Instr.field 31 (.agg #[.int .i64 x0, .int .i64 x1, .int .i64 x2, .string x3, .int .i64 x4]) 4).run Tryz.prog W = .ok (.int .i64 x4) W := by kernel_rfl
theorem gR (x0 x1 x2 : Int) (x3 : ByteArray) (x4 : Int) (W : World) : (Instr.field 31 (.agg #[.int .i64 x0, .int .i64 x1, .int .i64 x2, .string x3, .int .i64 x4]) 3).run Tryz.prog W = .ok (.string x3) W := by kernel_rfl
theorem uA (x0 x1 x2 : Int) (x3 : ByteArray) (x4 : Int) (W : World) : (Instr.field 31 (.agg #[.int .i64 x0, .int .i64 x1, .int .i64 x2, .string x3, .int .i64 x4]) 1).run Tryz.prog W = .ok (.int .i64 x1) W := by kernel_rfl
theorem tH (x0 x1 x2 : Int) (x3 : ByteArray) (x4 : Int) (W : World) : (Instr.field 31 (.agg #[.int .i64 x0, .int .i64 x1, .int .i64 x2, .string x3, .int .i64 x4]) 0).run Tryz.prog W = .ok (.int .i64 x0) W := by kernel_rfl
def ap (n : Int) : Value := .int .i64 n
theorem fQ (E : aN) (s : St) (tv : TV) (lo hi : Int) (w : World) (hE : ax E) (hp : PI E s tv w) :
 Calls Tryz.prog 104 #[.pointer (some ⟨E.pb, 0, none⟩), .int .i64 lo, .int .i64 hi] w (aQ E tv w ap (num E.K lo hi s)) := by
 have HC := qd (eU E s tv w hE hp); have HN : num E.K lo hi s = if ((E.tk s.i).kind ≠ 2 ∨ (E.tk s.i).n < lo ∨ hi < (E.tk s.i).n) then .err 9 s.i else .ok (E.tk s.i).n (aH E.K s) := by
  unfold num; rw [E.tok hp.i]; rfl
 rw [HN]; have HP := qd hp; have HE := qd hE; clear HN hp hE; obtain ⟨x, HX⟩ : ∃ x, Hid (E.tk s.i = x) := ⟨_, rfl⟩; rw [HX.out] at HC ⊢; obtain ⟨x0, x1, x2, x3, x4⟩ := x; unfold ay.val at HC; simp only at *
 by_cases hbad : x0 ≠ 2 ∨ x4 < lo ∨ hi < x4
 · rw [if_pos hbad]; obtain ⟨PP, hPP⟩ : ∃ PP, PP = aQ E tv w ap (.err 9 s.i) := ⟨_, rfl⟩; rw [← hPP]; have HPP := qd hPP; clear hPP; have hb2 : x0 = 2 ∧ x4 < lo ∨ x0 = 2 ∧ lo ≤ x4 ∧ hi < x4 ∨ x0 ≠ 2 := by omega
   clear hbad; rcases hb2 with ⟨rfl, h2⟩ | ⟨rfl, h2, h3⟩ | h1
   all_goals
    go_enter Tryz.func104, Tryz.ntmps104; go_wp2_with fail; refine HC.out.mono ?_; rintro e w1 ⟨rfl, hb⟩; have HB := qd hb; clear hb; go_wp2_with fail; generalize hW1 : World.alloc w1 _ = W1; have HG : Hid (Below w1.heap.size w1 W1) := by rw [← hW1]; exact br.alloc (Nat.le_refl _) _
    clear hW1; refine (eC E s tv W1 HE.out ((HP.out.keep HB.out).keep HG.out)).mono ?_; rintro e w2 ⟨rfl, rfl⟩; unfold bi; go_wp2_with fail; refine ⟨rfl, ?_⟩; rw [HPP.out]; exact ⟨rfl, tv, (Fr.of_below HB.out).trans (Fr.of_below HG.out)⟩
 · rw [if_neg hbad]; obtain ⟨PP, hPP⟩ : ∃ PP, PP = aQ E tv w ap (.ok x4 (aH E.K s)) := ⟨_, rfl⟩; rw [← hPP]; have HPP := qd hPP; clear hPP; obtain rfl : x0 = 2 := by omega
   have h2 : lo ≤ x4 := by omega
   have h3 : x4 ≤ hi := by omega
   clear hbad; have hf4 := sw 2 x1 x2 x3; go_enter Tryz.func104, Tryz.ntmps104; go_wp2_with fail; refine HC.out.mono ?_; rintro e w1 ⟨rfl, hb⟩; have HB := qd hb; clear hb; go_wp2_with fail; generalize hW1 : World.alloc w1 _ = W1; have HG : Hid (Below w1.heap.size w1 W1) := by rw [← hW1]; exact br.alloc (Nat.le_refl _) _
   clear hW1; refine (fR E s tv W1 HE.out ((HP.out.keep HB.out).keep HG.out)).mono ?_; rw [HX.out]; unfold ay.val; rintro e w2 ⟨rfl, hp2, hf2⟩; have HP2 := qd hp2; have HF2 := qd hf2; clear hp2 hf2; go_wp2_with fail; rw [HPP.out]; exact ⟨rfl, tv, HP2.out, ((Fr.of_below HB.out).trans (Fr.of_below HG.out)).trans HF2.out⟩
set_option maxRecDepth 100000 in
theorem iu (E : aN) (s : St) (tv : TV) (w : World) (hE : ax E) (hp : PI E s tv w) :
 Calls Tryz.prog 143 #[.pointer (some ⟨E.pb, 0, none⟩)] w (aQ E tv w ap (some1 E.K s)) := by
 have HC := qd (eU E s tv w hE hp); have HN : some1 E.K s = if (E.tk s.i).n = 0 then .err 9 s.i else fA E.K s := by
  unfold some1; rw [E.tok hp.i]; rfl
 rw [HN]; have HP := qd hp; have HE := qd hE; clear HN hp hE; obtain ⟨x, HX⟩ : ∃ x, Hid (E.tk s.i = x) := ⟨_, rfl⟩; rw [HX.out] at HC ⊢; obtain ⟨x0, x1, x2, x3, x4⟩ := x; unfold ay.val at HC; simp only at *
 by_cases hz : x4 = 0
 · subst hz; rw [if_pos rfl]; obtain ⟨PP, hPP⟩ : ∃ PP, PP = aQ E tv w ap (.err 9 s.i) := ⟨_, rfl⟩; rw [← hPP]; have HPP := qd hPP; clear hPP; have hf4 := sw x0 x1 x2 x3; go_enter Tryz.func143, Tryz.ntmps143; go_wp2_with fail; refine HC.out.mono ?_; rintro e w1 ⟨rfl, hb⟩; have HB := qd hb; clear hb; go_wp2_with fail; refine (eC E s tv w1 HE.out (HP.out.keep HB.out)).mono ?_; rintro e w2 ⟨rfl, rfl⟩; unfold bi; go_wp2_with fail; refine ⟨rfl, ?_⟩; rw [HPP.out]; exact ⟨rfl, tv, Fr.of_below HB.out⟩
 · rw [if_neg hz]; obtain ⟨r, HR⟩ : ∃ r, Hid (fA E.K s = r) := ⟨_, rfl⟩; rw [HR.out]; obtain ⟨PP, hPP⟩ : ∃ PP, PP = aQ E tv w ap r := ⟨_, rfl⟩; rw [← hPP]; have HPP := qd hPP; clear hPP; have hf4 := sw x0 x1 x2 x3; go_enter Tryz.func143, Tryz.ntmps143; go_wp2_with fail; refine HC.out.mono ?_; rintro e w1 ⟨rfl, hb⟩; have HB := qd hb; clear hb; go_wp2_with fail; refine (fQ E s tv _ _ w1 HE.out (HP.out.keep HB.out)).mono ?_; rintro e w2 hpost; have hpost := aQ.from HB.out hpost; rw [show num E.K (-9223372036854775808) 9223372036854775807 s = r from HR.out] at hpost; cases r with
   | ok a s1 =>
     obtain ⟨rfl, rest⟩ := hpost; have HRS := qd rest; clear rest; unfold ap; go_wp2_with fail; rw [HPP.out]; exact ⟨rfl, HRS.out⟩
   | err c p =>
     obtain ⟨rfl, rest⟩ := hpost; have HRS := qd rest; clear rest; unfold bi; go_wp2_with fail; refine ⟨rfl, ?_⟩; rw [HPP.out]; exact ⟨rfl, HRS.out⟩
   | stuck => exact hpost.elim
end Go.Proofs.YthkebhjaaikopaaGreatDoor

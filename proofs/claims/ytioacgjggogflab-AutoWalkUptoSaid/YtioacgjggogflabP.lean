/-
  slices.Repeat of one number.
-/
import Derived.Test.YtioacgjggogflabO
import Derived.WideMake
import Derived.Laws.CopyOwn
namespace Go.Proofs.Ytioacgjggogflab
open Go.ChangeShapes Go.WideShapes Go.ChangeAt Go.RowKit Go.Deep Go.Joins Go.Instr
theorem and_mask (n : Nat) (h : n ≤ 1048576) : bits .and .u64 (n : Int) 4294967295 = (n : Int) := by
  have h1 := bits_and_u64_nat n 4294967295 (by omega) (by omega)
  have e : n &&& 4294967295 = n % 4294967296 := Nat.and_two_pow_sub_one_eq_mod n 32
  rw [e, Nat.mod_eq_of_lt (by omega)] at h1
  exact h1
set_option maxHeartbeats 4000000 in
theorem mul64_one (n : Nat) (h : n ≤ 1048576) (w : World) : Calls Try.prog 27 #[.int .u64 1, .int .u64 (n : Int)] w fun e w' => e = .returned (.tuple #[.int .u64 0, .int .u64 (n : Int)]) ∧ w' = w := by
  have e1 := and_mask n h
  have e0 : bits .and .u64 1 4294967295 = 1 := by decide +kernel
  have e2 : bits .and .u64 0 4294967295 = 0 := by decide +kernel
  have d1 : (n : Int) / 4294967296 = 0 := by omega
  have w1 : IntKind.u64.wrap (n : Int) = (n : Int) := by rw [IntKind.wrap_u64]; omega
  go_enter Try.func27, Try.ntmps27
  go_wp2
  refine bodyPost_ret (v := .tuple #[.int .u64 0, .int .u64 (n : Int)]) (by simp [results, Try.results27, go_sem]) rfl ⟨rfl, rfl⟩
set_option maxHeartbeats 2000000 in
theorem mul_one (n : Nat) (h : n ≤ 1048576) (w : World) : Calls Try.prog 23 #[.int .u64 1, .int .u64 (n : Int)] w fun e w' => e = .returned (.tuple #[.int .u64 0, .int .u64 (n : Int)]) ∧ w' = w := by
  go_enter Try.func23, Try.ntmps23
  go_wp2_with fail
  refine (mul64_one n h _).mono ?_
  rintro e w1 ⟨rfl, rfl⟩
  go_wp2
  refine bodyPost_ret (v := .tuple #[.int .u64 0, .int .u64 (n : Int)]) (by simp [results, Try.results23, go_sem]) rfl ⟨rfl, rfl⟩
theorem Try.info3 : (Try.prog.info? 3).map (fun i => (i.zero, i.size, i.bytes)) = some (some (.int .i64 0), 1, 8) := by kernel_rfl
theorem make_ints (n : Nat) (h : n ≤ 1048576) (w : World) : (Instr.makeSlice 27 (.int .i64 (n : Int)) (.int .i64 (n : Int))).run Try.prog w = .ok (.slice (some ⟨w.heap.size, 0, none⟩) n n) (w.alloc (.cells (List.replicate n (Value.int .i64 0)).toArray 3)) := by
  obtain ⟨i, hi, h1, h2, h3⟩ : ∃ i, Try.prog.info? 3 = some i ∧ i.zero = some (.int .i64 0) ∧ i.size = 1 ∧ i.bytes = 8 := by
    have h := Try.info3
    cases hh : Try.prog.info? 3 with
    | none => rw [hh] at h; simp at h
    | some i =>
      rw [hh] at h
      simp only [Option.map_some, Option.some.injEq, Prod.mk.injEq] at h
      exact ⟨i, rfl, h⟩
  have hr := run_makeSlice (P := Try.prog) w 27 3 i (.int .i64 0) Try.underlying27 hi h1 .i64 .i64 (n : Int) (n : Int) (by omega) (Int.le_refl _) (by rw [h2]; omega) (by rw [h3]; omega) (by omega)
  rw [hr, h2]
  have e : madeCells (Value.int .i64 0).cells ((n : Int).toNat * 1) = (List.replicate n (Value.int .i64 0)).toArray := by
    have := toList_madeCells_one (Value.int .i64 0) n
    apply Array.ext'
    show (madeCells #[Value.int .i64 0] ((n : Int).toNat * 1)).toList = _
    rw [show (n : Int).toNat * 1 = n by omega]
    simpa using this
  rw [e]
  simp
theorem splice_all (C : List Value) (bp k : Nat) (v : Value) (h : C.take bp = List.replicate bp v) (hk : bp + k ≤ C.length) : (splice C bp (List.replicate k v)).take (bp + k) = List.replicate (bp + k) v ∧ (splice C bp (List.replicate k v)).length = C.length := by
  refine ⟨?_, length_splice _ _ _ (by simpa using hk)⟩
  unfold splice
  rw [h, ← List.append_assoc, List.replicate_append_replicate, List.take_append_of_le_length (by simp)]
  simp
set_option maxRecDepth 100000 in
set_option maxHeartbeats 8000000 in
theorem repeat_any (n b : Nat) (h1 : 1 ≤ n) (h : n ≤ 1048576) (w : World) (hb : w.cell? ⟨b, 0, none⟩ = some (.int .i64 (-1))) (hbl : b < w.heap.size) :
    Calls Try.prog 11 #[.slice (some ⟨b, 0, none⟩) 1 1, .int .i64 (n : Int)] w fun e w' => ∃ g, e = .returned (.slice (some ⟨g, 0, none⟩) n n) ∧ Ow w' w.heap.size 3 1 iEnc (.slice (some ⟨g, 0, none⟩) n n) (List.replicate n (-1)) ∧ Below w.heap.size w w' := by
  have hwr1 : IntKind.u64.wrap (n : Int) = (n : Int) := by rw [IntKind.wrap_u64]; omega
  go_enter Try.func11, Try.ntmps11
  go_wp2_with fail
  refine (mul_one n h _).mono ?_
  rintro e w1 ⟨rfl, rfl⟩
  have hmk := make_ints n h
  have HMIN : Hid (∀ k : Nat, k = 1 → k = Nat.min 1 n) := fun k hk => hk.trans (Nat.min_eq_left h1).symm
  have hsz3 : (Try.prog.info? 3).map (·.size) = some 1 := by kernel_rfl
  go_wp2_with (refine wpList_copy_splice rfl (.tmp 31) (.tmp 32) 27 27 rfl 3 Try.underlying27 hsz3 (some ⟨w1.heap.size, 0, none⟩) (some ⟨b, 0, none⟩) n n 1 1 rfl rfl w1.heap.size 0 (List.replicate n (Value.int .i64 0)) 3 (by simpa using heap_new' w1 _) (List.replicate 1 (Value.int .i64 (-1))) (HMIN.out _ (by simp)) ?d1 (by simp; omega) (by intro v hv; simp at hv; rw [hv]; rfl) w1.heap.size w1 ((Below.refl _ _).alloc (Nat.le_refl _) _) (Nat.le_refl _) ?d2)
  case d1 =>
    intro j v hj
    have hj0 : j = 0 := by
      have := (List.getElem?_eq_some_iff.1 hj).1
      simpa using this
    subst hj0
    have hv : Value.int .i64 (-1) = v := by simpa using hj
    subst hv
    exact hb
  case d2 =>
    intro w3 hg3 hb3
    have HB3 := Lib.hid hb3
    have hl3 : Hid ((splice (List.replicate n (Value.int .i64 0)) 0 [Value.int .i64 (-1)]).length = n ∧ (splice (List.replicate n (Value.int .i64 0)) 0 [Value.int .i64 (-1)]).take 1 = List.replicate 1 (Value.int .i64 (-1))) := by
      obtain ⟨q1, q2⟩ := splice_all (List.replicate n (Value.int .i64 0)) 0 1 (.int .i64 (-1)) (by simp) (by simp; omega)
      exact ⟨by rw [show [Value.int .i64 (-1)] = List.replicate 1 (Value.int .i64 (-1)) from rfl, q2]; simp, by simpa using q1⟩
    generalize splice (List.replicate n (Value.int .i64 0)) 0 [Value.int .i64 (-1)] = C0 at *
    clear hb3 hmk
    obtain ⟨g, hg⟩ : ∃ g, g = w1.heap.size := ⟨_, rfl⟩
    rw [← hg] at hg3 ⊢
    have HGE := Lib.hid hg
    have hgl : w1.heap.size ≤ g := by omega
    clear hg
    have hn0 : (0 : Int) ≤ (n : Int) := by omega
    go_wp2_with fail
    go_loopw [8] (fun ii wr => ∃ (bp : Nat) (C : List Value), 1 ≤ bp ∧ bp ≤ n ∧ ii = .int .i64 bp ∧ Hid (wr.heap[g]? = some (.cells C.toArray 3 (0, 0))) ∧ Hid (C.length = n) ∧ Hid (C.take bp = List.replicate bp (.int .i64 (-1))) ∧ Hid (Below w1.heap.size w1 wr)) (fun ii _ => n - (intOf ii).toNat)
    case atStart => exact ⟨1, C0, Nat.le_refl _, h1, rfl, hg3, hl3.out.1, hl3.out.2, HB3⟩
    case round =>
      obtain ⟨bp, C, hp1, hp2, rfl, hgr, hcl, hct, hB⟩ := hrel
      have hsz := hB.out.size
      by_cases hlt : bp < n
      · obtain ⟨k, hk⟩ : ∃ k, k = Nat.min bp (n - bp) := ⟨_, rfl⟩
        have hk1 : k ≤ bp := by rw [hk]; exact Nat.min_le_left _ _
        have hk2 : k ≤ n - bp := by rw [hk]; exact Nat.min_le_right _ _
        have hk3 : 1 ≤ k := by rw [hk]; exact Nat.le_min.2 ⟨hp1, by omega⟩
        have HK := Lib.hid hk
        clear hk
        have hgl2 := lt_of_block hgr.out
        have HSRC : Hid (∀ j v, (List.replicate k (Value.int .i64 (-1)))[j]? = some v → wr.drew.cell? ((⟨g, 0, none⟩ : Addr).add j) = some v) := by
          intro j v hj
          have hjk : j < k := by simpa using (List.getElem?_eq_some_iff.1 hj).1
          have hv : v = .int .i64 (-1) := by
            rw [List.getElem?_replicate, if_pos hjk] at hj
            injection hj with hj; exact hj.symm
          have ha : (⟨g, 0, none⟩ : Addr).add j = ⟨g, j, none⟩ := by simp [Addr.add]; intro h; omega
          rw [ha, hv]
          refine (cell_of_row wr g j _ _ _ hgr.out).trans ?_
          have h5 : (C.take bp)[j]? = some (.int .i64 (-1)) := by rw [hct.out, List.getElem?_replicate, if_pos (by omega)]
          rw [List.getElem?_take, if_pos (by omega)] at h5
          simpa using h5
        have HFIT : Hid (bp + (List.replicate k (Value.int .i64 (-1))).length ≤ C.length) := by unfold Hid; rw [hcl.out]; simp; omega
        have HN2 : Hid ((List.replicate k (Value.int .i64 (-1))).length = Nat.min bp (n - bp)) := by unfold Hid; rw [← HK.out]; simp
        have HONE : Hid (∀ v ∈ List.replicate k (Value.int .i64 (-1)), v.oneCell' = true) := fun v hv => by rw [(List.mem_replicate.1 hv).2]; rfl
        have HSP : Hid ((splice C bp (List.replicate k (Value.int .i64 (-1)))).take (bp + k) = List.replicate (bp + k) (.int .i64 (-1)) ∧ (splice C bp (List.replicate k (Value.int .i64 (-1)))).length = n) := by
          obtain ⟨q1, q2⟩ := splice_all C bp k (.int .i64 (-1)) hct.out (by rw [hcl.out]; omega)
          exact ⟨q1, by rw [q2, hcl.out]⟩
        have HBD : Hid (Below w1.heap.size w1 wr.drew) := hB.out.drew
        have hkl : (List.replicate k (Value.int .i64 (-1))).length = k := by simp
        have HCP : Hid (∃ W4, (Builtin.copy_ #[27, 27] 3 #[.slice (some ⟨g, bp, none⟩) (n - bp) (n - bp), .slice (some ⟨g, 0, none⟩) bp n]).run Try.prog wr.drew = .ok (.int .i64 (k : Int)) W4 ∧ W4.heap[g]? = some (.cells (splice C bp (List.replicate k (Value.int .i64 (-1)))).toArray 3 (0, 0)) ∧ Below w1.heap.size w1 W4) := by
          have hr := run_copy_row (P := Try.prog) wr.drew 27 27 3 3 g bp (n - bp) (n - bp) ⟨g, 0, none⟩ bp n C.toArray 3 (List.replicate k (Value.int .i64 (-1))) Try.underlying27 hsz3 hgr.out HN2.out HSRC.out (by simpa using HFIT.out) HONE.out
          have e : goInt (List.replicate k (Value.int .i64 (-1))).length = .int .i64 (k : Int) := by rw [hkl]; rfl
          rw [e] at hr
          refine ⟨_, hr, ?_, below_setRow HBD.out hgl _⟩
          have h6 := setRow_heap wr.drew g C.toArray (C.toArray.toList.take bp ++ List.replicate k (Value.int .i64 (-1)) ++ C.toArray.toList.drop (bp + (List.replicate k (Value.int .i64 (-1))).length)).toArray 3 _ hgr.out
          simpa [splice] using h6
        obtain ⟨W4, hcp, hg4, hB4⟩ := HCP.out
        have HG4 := Lib.hid hg4; have HB4 := Lib.hid hB4
        clear hg4 hB4 HCP HSRC HFIT HN2 HONE HBD hkl
        generalize splice C bp (List.replicate k (Value.int .i64 (-1))) = C2 at *
        have hb0 : (0 : Int) ≤ (bp : Int) := by omega
        have hb1 : (bp : Int) ≤ (n : Int) := by omega
        have hb2 : ¬ n = bp := by omega
        go_wp2_with fail
        go_region
        all_goals
          go_wp2
          go_roundw
          case rel => exact ⟨bp + k, _, by omega, by omega, by go_num, HG4, HSP.out.2, HSP.out.1, HB4⟩
          case measure => simp [intOf]; omega
      · obtain rfl : bp = n := by omega
        have HO : Hid (Ow wr w1.heap.size 3 1 iEnc (.slice (some ⟨g, 0, none⟩) bp bp) (List.replicate bp (-1))) := by
          refine ⟨by simp [fle_len], .inr ⟨g, bp, C.toArray, by simp, hgl, hgr.out, by simp, by unfold maxLen; omega, by simp [hcl.out], ?_⟩⟩
          rw [fle_ints]
          simp only [List.length_replicate, Nat.mul_one, List.map_replicate]
          exact hct.out
        go_wp2
        go_ret
        exact ⟨g, rfl, HO.out, hB.out⟩
end Go.Proofs.Ytioacgjggogflab

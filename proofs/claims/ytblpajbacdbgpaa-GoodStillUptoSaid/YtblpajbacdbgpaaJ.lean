/-
  Contracts of good's proctype, types, shape. Conditions: the slices are laid as data; the checker's cells.
-/
import Derived.Test.YtblpajbacdbgpaaI
import Derived.StillTailTactics
namespace Go.Proofs.Ytblpajbacdbgpaa
open Go.ChangeShapes Go.WideShapes Go.ChangeAt Go.RowKit Go.Deep Go.Joins
/-- The checker's cells. -/
structure Ck (W : World) (b : Nat) (M : MoD) : Prop where
  c0 : W.cell? ⟨b, 0, none⟩ = some M.gv
  c1 : W.cell? ⟨b, 1, none⟩ = some M.iv
  c2 : W.cell? ⟨b, 2, none⟩ = some M.sv
  c3 : W.cell? ⟨b, 3, none⟩ = some M.cv
  c4 : W.cell? ⟨b, 4, none⟩ = some M.pv
  c5 : W.cell? ⟨b, 5, none⟩ = some (.int .i64 M.claim)
  c6 : W.cell? ⟨b, 6, none⟩ = some M.xv
theorem Ck.lt {W : World} {b : Nat} {M : MoD} (h : Ck W b M) : b < W.heap.size := World.block_lt_of_cell? W _ h.c0
theorem Ck.keep {W W' : World} {b : Nat} {M : MoD} (h : Ck W b M) (hb : Below W.heap.size W W') : Ck W' b M :=
  ⟨(hb.cell h.lt).trans h.c0, (hb.cell h.lt).trans h.c1, (hb.cell h.lt).trans h.c2, (hb.cell h.lt).trans h.c3, (hb.cell h.lt).trans h.c4, (hb.cell h.lt).trans h.c5, (hb.cell h.lt).trans h.c6⟩
def procF (M : MoD) (n : Int) : Bool := decide (0 ≤ n ∧ n < M.procs.length ∧ n ≠ M.claim)
set_option maxHeartbeats 1000000 in
theorem proctype_any (M : MoD) (w0 : World) (hM : M.ok w0) (b : Nat) (n : Int) (w : World) (hk : Ck w b M) :
    Calls Try.prog 31 #[.pointer (some ⟨b, 0, none⟩), .int .i64 n] w fun e w' => e = .returned (.bool (procF M n)) ∧ w = w' := by
  obtain ⟨ap, cp, hpv, hcp, hmp, -⟩ := hM.pv
  have c4 := hk.c4
  have c5 := hk.c5
  rw [hpv] at c4
  clear hpv hk hM
  unfold maxLen at hmp
  go_enter Try.func31, Try.ntmps31
  go_wp2
  all_goals
    go_ret
    refine ⟨retb ?_, rfl⟩
    unfold procF
    refine Bool.eq_iff_iff.2 ?_
    simp [*]
    try omega
def tyAt (l : List TyD) (li : List Int) (i : Nat) : Bool := fitF (l.getD i default).bits (l.getD i default).signed (li.getD i default)
/-- The first place at which p holds. -/
def srch (p : Nat → Bool) : Nat → Nat → Option Nat
  | _, 0 => none
  | i, n + 1 => if p i then some i else srch p (i + 1) n
theorem srch_hit {p : Nat → Bool} {i N : Nat} (h : i < N) (hp : p i = true) : srch p i (N - i) = some i := by
  obtain ⟨k, hk⟩ : ∃ k, N - i = k + 1 := ⟨N - i - 1, by omega⟩
  rw [hk, srch, if_pos hp]
theorem srch_miss {p : Nat → Bool} {i N : Nat} (h : i < N) (hp : p i = false) : srch p i (N - i) = srch p (i + 1) (N - (i + 1)) := by
  obtain ⟨k, hk⟩ : ∃ k, N - i = k + 1 := ⟨N - i - 1, by omega⟩
  rw [hk, srch, hp, show N - (i + 1) = k by omega]; rfl
theorem srch_end {p : Nat → Bool} {i N : Nat} (h : N ≤ i) : srch p i (N - i) = none := by
  rw [show N - i = 0 by omega, srch]
def optI : Option Nat → Int
  | some i => i
  | none => -1
def typesF (l : List TyD) (li : List Int) : Int := optI (srch (fun i => !tyAt l li i) 0 l.length)
set_option maxHeartbeats 1000000 in
theorem types_any (v vi : Value) (l : List TyD) (li : List Int) (w : World) (h : Sl w 2 TyD.enc v l) (hi : Sl w 1 iEnc vi li) (hl : l.length = li.length) (hz : l.length ≤ 1048576) :
    Calls Try.prog 19 #[v, vi] w fun e w' => e = .returned (.int .i64 (typesF l li)) ∧ Below w.heap.size w w' := by
  obtain ⟨ad, cap, rfl, hcap, hmax, hcell⟩ := h
  obtain ⟨ai, capi, rfl, hcapi, hmaxi, hcelli⟩ := hi
  clear hmax hmaxi
  have HC := Lib.hid hcell; clear hcell
  have HI := Lib.hid hcelli; clear hcelli
  have hl1 : l.length ≤ li.length := by omega
  have hl2 : li.length ≤ l.length := by omega
  clear hl
  go_enter Try.func19, Try.ntmps19
  go_wp2
  go_loopw [8] (fun i wr => ∃ k : Nat, k ≤ l.length ∧ i = .int .i64 k ∧ Below w.heap.size w wr ∧ Hid (srch (fun i => !tyAt l li i) 0 l.length = srch (fun i => !tyAt l li i) k (l.length - k))) (fun i _ => l.length - (intOf i).toNat)
  case atStart => exact ⟨0, Nat.zero_le _, rfl, Below.refl _ _, rfl⟩
  case round =>
    obtain ⟨k, hk, rfl, hB, hS⟩ := hrel
    by_cases hlt : k < l.length
    · obtain ⟨b, off, rfl, hbs, hc⟩ := HC.out (by omega)
      obtain ⟨bi, offi, rfl, hbsi, hci⟩ := HI.out (by omega)
      have c0 := (hB.cell (p := ⟨b, off + k * 2 + 0, none⟩) hbs).trans (hc k hlt 0 (by omega))
      have c1 := (hB.cell (p := ⟨b, off + k * 2 + 1, none⟩) hbs).trans (hc k hlt 1 (by omega))
      have d0 := (hB.cell (p := ⟨bi, offi + k * 1 + 0, none⟩) hbsi).trans (hci k (by omega) 0 (by omega))
      simp only [TyD.enc, iEnc, Nat.mul_one, Nat.add_zero] at c0 c1 d0
      clear hc hci
      have hsz := hB.size
      have HT : Hid (tyAt l li k = fitF (l.getD k default).bits (l.getD k default).signed (li.getD k default)) := rfl
      generalize l.getD k default = t at *
      generalize li.getD k default = x at *
      have hkl : k < li.length := by omega
      go_wp2_with fail
      go_still_tail 8, (by kernel_rfl)
      go_wp2_with fail
      refine (fits_any _ _ _ _).mono ?_
      rintro e w2 ⟨rfl, hb2⟩
      rw [← HT.out]
      have hB2 : Below w.heap.size w w2 := hB.drew.trans (hb2.mono (by simpa using hsz))
      by_cases ht : tyAt l li k = true
      · have HN := Lib.hid (hS.out.trans (srch_miss (p := fun i => !tyAt l li i) hlt (by simp [ht])))
        rw [ht]
        clear ht hb2
        go_wp2
        go_roundw
        case rel => exact ⟨k + 1, by omega, by go_num, hB2, HN⟩
        case measure => simp [intOf]; omega
      · have ht2 : tyAt l li k = false := by simpa using ht
        have HN := Lib.hid (hS.out.trans (srch_hit (p := fun i => !tyAt l li i) hlt (by simp [ht2])))
        rw [ht2]
        clear ht ht2 hb2
        go_wp2
        go_ret
        refine ⟨reti ?_, hB2⟩
        unfold typesF
        rw [HN.out]
        rfl
    · go_wp2
      go_ret
      refine ⟨reti ?_, hB⟩
      unfold typesF
      rw [hS.out, srch_end (by omega)]
      rfl
def shapeF (s : ShD) : Bool := decide (0 ≤ s.room ∧ s.room ≤ 16 ∧ 1 ≤ s.fields.length ∧ s.fields.length ≤ 8) && s.fields.all fun t => tyF t.bits t.signed
set_option maxHeartbeats 1000000 in
theorem shape_any (s : ShD) (w : World) (h : s.ok w) :
    Calls Try.prog 20 #[.agg #[.int .i64 s.room, s.fv]] w fun e w' => e = .returned (.bool (shapeF s)) ∧ Below w.heap.size w w' := by
  obtain ⟨hr, ⟨ad, cap, hv, hcap, hmax, hcell⟩, hz⟩ := h
  rw [hv]
  clear hv hmax
  have HC := Lib.hid hcell; clear hcell
  by_cases hg : 0 ≤ s.room ∧ s.room ≤ 16 ∧ 1 ≤ s.fields.length ∧ s.fields.length ≤ 8
  · have HG : Hid (shapeF s = s.fields.all fun t => tyF t.bits t.signed) := by unfold Hid shapeF; simp [hg]
    obtain ⟨g1, g2, g3, g4⟩ := hg
    go_enter Try.func20, Try.ntmps20
    go_wp2
    go_loopw [28] (fun i wr => ∃ k : Nat, k ≤ s.fields.length ∧ i = .int .i64 k ∧ Below w.heap.size w wr ∧ Hid ((s.fields.take k).all (fun t => tyF t.bits t.signed) = true)) (fun i _ => s.fields.length - (intOf i).toNat)
    case atStart => exact ⟨0, Nat.zero_le _, rfl, by go_grown, rfl⟩
    case round =>
      obtain ⟨k, hk, rfl, hB0, hS⟩ := hrel
      have hsz := hB0.size
      by_cases hlt : k < s.fields.length
      · obtain ⟨b, off, rfl, hbs, hc⟩ := HC.out (by omega)
        have c0 := (hB0.cell (p := ⟨b, off + k * 2 + 0, none⟩) hbs).trans (hc k hlt 0 (by omega))
        have c1 := (hB0.cell (p := ⟨b, off + k * 2 + 1, none⟩) hbs).trans (hc k hlt 1 (by omega))
        simp only [TyD.enc, Nat.add_zero] at c0 c1
        clear hc
        have HS := Lib.hid (all_step hS.out hlt)
        have HF := Lib.hid (all_fail (p := fun t : TyD => tyF t.bits t.signed) hlt)
        generalize s.fields.getD k default = t at *
        go_wp2_with fail
        refine (type_any _ _ _).mono ?_
        rintro e w2 ⟨rfl, hb2⟩
        have hB2 : Below w.heap.size w w2 := (hB0.alloc hsz _).trans (hb2.mono (by simp; omega))
        clear hb2
        by_cases ht : tyF t.bits t.signed = true
        · have HN := Lib.hid (HS.out ht)
          rw [ht]
          clear ht
          go_wp2
          go_roundw
          case rel => exact ⟨k + 1, by omega, by go_num, hB2, HN⟩
          case measure => simp [intOf]; omega
        · have ht2 : tyF t.bits t.signed = false := by simpa using ht
          have HN := Lib.hid (HF.out ht2)
          rw [ht2]
          clear ht ht2
          go_wp2
          go_ret
          exact ⟨retb (by rw [HG.out, HN.out]), hB2⟩
      · go_wp2
        go_ret
        refine ⟨retb ?_, hB0⟩
        rw [HG.out]
        exact (all_end hS.out hlt).symm
  · have HG : Hid (shapeF s = false) := by unfold Hid shapeF; simp; omega
    go_enter Try.func20, Try.ntmps20
    go_wp2
    all_goals first
      | (go_ret; exact ⟨retb HG.out.symm, by go_grown⟩)
      | (exfalso; omega)
end Go.Proofs.Ytblpajbacdbgpaa

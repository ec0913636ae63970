/-
  Contract of the reference's Tokens: the tokens that it tells of a source without texts and numbers in quotes. Conditions: the source has at most 65535 bytes.
-/
import Derived.Test.YtaliplbbmhfenaaTB
import Derived.Test.YtaliplbbmhfenaaBH
namespace Go.Proofs.Ytaliplbbmhfenaa
open Go.MapKept Go.ChangeShapes Go.WideShapes Go.ChangeAt Go.RowKit Go.Deep Go.Joins Go.Instr
theorem Lx.rnext_some (s : ByteArray) (a : Nat) (w : World) (ha : a < s.size) (hs : s.size ≤ 65535) (h : ¬ (Lx.bt s.data.toList a = 34 ∨ Lx.bt s.data.toList a = 39)) :
    Calls Try.prog 33 #[.string s, .int .i64 a] w (Lx.NextPost (Lx.nextF s.data.toList a) a w) := by
  rw [Lx.bt_eq s a ha] at h
  cases h1 : Lx.letF (s[a].toNat : Int)
  · cases h2 : Lx.digF (s[a].toNat : Int)
    · exact Lx.rnext_mark s a w ha hs h1 h2 (by simp; omega) (by simp; omega) _ rfl
    · exact Lx.rnext_num s a w ha hs h1 h2 _ rfl
  · exact Lx.rnext_name s a w ha hs h1 _ rfl
theorem heap_new1t (w : World) (a o : Obj) : ((w.alloc a).alloc o).heap[w.heap.size + 1]? = some o := by
  have := heap_new' (w.alloc a) o
  simpa using this
/-- The tokens behind a place, where all is well. -/
def toksF (l : List UInt8) : Nat → Nat → Nat → List TkD → Option (List TkD)
  | 0, _, _, _ => none
  | f + 1, a, ln, acc =>
    if l.length ≤ a then some (acc ++ [⟨0, a, ln, ⟨#[]⟩, 0⟩])
    else match Lx.blankF (Lx.bt l a) l a with
      | none => none
      | some (n + 1, k) => if a + (n + 1) ≤ l.length ∧ ln + k ≤ 100000 then toksF l f (a + (n + 1)) (ln + k) acc else none
      | some (0, _) => if Lx.bt l a = 34 ∨ Lx.bt l a = 39 then none
        else if (Lx.nextF l a).e = 0 ∧ acc.length < 8191 ∧ 1 ≤ (Lx.nextF l a).len ∧ a + (Lx.nextF l a).len ≤ l.length then toksF l f (a + (Lx.nextF l a).len) ln (acc ++ [⟨(Lx.nextF l a).kind, a, ln, ⟨(Lx.nextF l a).text.toArray⟩, (Lx.nextF l a).n⟩]) else none
def TksP (w : World) (R : List TkD) (e : Ending) (w' : World) : Prop :=
  ∃ v, e = .returned (.tuple #[v, .int .i64 0, .int .i64 0]) ∧ w'.ownsRow w.heap.size 25 5 v R.length (fl R) ∧ Below w.heap.size w w'
def TksRel (l : List UInt8) (R : List TkD) (w : World) (v i j : Value) (wr : World) : Prop :=
  ∃ (a ln f : Nat) (acc : List TkD), a ≤ l.length ∧ acc.length ≤ 8191 ∧ ln ≤ 100000 ∧ i = .int .i64 ln ∧ j = .int .i64 a ∧ Hid (wr.ownsRow w.heap.size 25 5 v acc.length (fl acc)) ∧ Hid (toksF l f a ln acc = some R) ∧ Hid (Below w.heap.size w wr)
set_option maxHeartbeats 4000000 in
set_option maxRecDepth 20000 in
theorem tokens_some (s : ByteArray) (w : World) (hs : s.size ≤ 65535) (f0 : Nat) (R : List TkD) (HR : Hid (toksF s.data.toList f0 0 1 [] = some R)) :
    Calls Try.prog 19 #[.string s] w (TksP w R) := by
  have hlen : Hid (s.data.toList.length = s.size) := rfl
  have hsi : (s.size : Int) ≤ 65535 := by omega
  go_enter Try.func19, Try.ntmps19
  go_wp2_with fail
  go_loopw [5, 6, 7] (TksRel s.data.toList R w) (fun _ _ j _ => s.size - (intOf j).toNat)
  case atStart => exact ⟨0, 1, f0, [], Nat.zero_le _, Nat.zero_le _, by omega, rfl, rfl, World.ownsRow_nil _ _ _ _, HR.out, Below.refl _ _⟩
  case round =>
    obtain ⟨a, ln, f, acc, ha, hc, hln, rfl, rfl, HO, HF, HB⟩ := hrel
    obtain ⟨ao, cap, rfl⟩ := own_slice HO.out
    rw [hlen.out] at ha
    have hsz := HB.out.size
    cases f with
    | zero => exact absurd HF.out (by simp [toksF])
    | succ f =>
    by_cases hlt : a < s.size
    · have hla : ¬ s.data.toList.length ≤ a := by rw [hlen.out]; omega
      have hF := HF.out
      rw [toksF, if_neg hla] at hF
      have hbt := Lx.bt_eq s a hlt
      have HBK := Lib.hid (fun w => Lx.rblank_any s a w hlt hs)
      rw [← hbt] at HBK
      obtain ⟨p, hp⟩ : ∃ p, Lx.blankF (Lx.bt s.data.toList a) s.data.toList a = p := ⟨_, rfl⟩
      rw [hp] at hF HBK
      clear hp hbt hla
      match p, hF, HBK with
      | some (n + 1, k), hF, HBK =>
        simp only at hF
        by_cases hg : a + (n + 1) ≤ s.data.toList.length ∧ ln + k ≤ 100000
        · rw [if_pos hg] at hF
          obtain ⟨hg1, hg2⟩ := hg
          have HF2 := Lib.hid hF
          rw [hlen.out] at hg1
          clear hF
          go_wp2_with fail
          refine (HBK.out _).mono ?_
          rintro e w1 ⟨rfl, rfl⟩
          simp only [Lx.rbV]
          go_wp2_with fail
          go_roundw
          case rel => exact ⟨a + (n + 1), ln + k, f, acc, by rw [hlen.out]; omega, hc, hg2, by go_num, by go_num, HO, HF2, HB⟩
          case measure => simp [intOf]; omega
        · rw [if_neg hg] at hF
          simp at hF
      | some (0, k), hF, HBK =>
        simp only at hF
        by_cases hq : Lx.bt s.data.toList a = 34 ∨ Lx.bt s.data.toList a = 39
        · rw [if_pos hq] at hF
          simp at hF
        · rw [if_neg hq] at hF
          have HNX := Lib.hid (fun w => Lx.rnext_some s a w hlt hs hq)
          clear hq
          generalize Lx.nextF s.data.toList a = r at *
          by_cases hg : r.e = 0 ∧ acc.length < 8191 ∧ 1 ≤ r.len ∧ a + r.len ≤ s.data.toList.length
          · rw [if_pos hg] at hF
            obtain ⟨hg0, hg1, hg2, hg3⟩ := hg
            rw [hlen.out] at hg3
            have HF2 := Lib.hid hF
            clear hF
            have hc9 : ((acc.length : Int) == 8191) = false := by rw [beq_eq_false_iff_ne]; omega
            go_wp2_with fail
            refine (HBK.out _).mono ?_
            rintro e w1 ⟨rfl, rfl⟩
            simp only [Lx.rbV]
            go_wp2_with fail
            refine (HNX.out _).mono ?_
            rintro e w1 ⟨⟨k1, p1, q1, n1, en, tx, rfl, hen⟩, hB1⟩
            obtain ⟨rfl, rfl, rfl, rfl, rfl, rfl⟩ := hen hg0
            clear hen
            rw [hg0]
            have hs1 := hB1.size
            have HB2 : Hid (Below w.heap.size w w1) := HB.out.trans (hB1.mono hsz)
            have HO1 := Lib.hid (own_below HO.out hB1)
            clear hB1
            obtain ⟨e0, kd, tx, nn, len⟩ := r
            simp only at hg0 hg1 hg2 hg3 HF2 ⊢
            go_wp2_with (at_builtin; go_must (refine wpList_push rfl _ _ rfl w.heap.size _ acc.length acc rfl ((HO1.out.alloc _).alloc _) (w1.heap.size + 1) kd a ln ⟨tx.toArray⟩ nn rfl (heap_new1t _ _ _) (by omega) (by simp <;> omega) ?c5))
            case c5 =>
              intro g cap w5 h1 h2 h3
              have HO5 : Hid (w5.ownsRow w.heap.size 25 5 (.slice (some ⟨g, 0, none⟩) (acc.length + 1) cap) (acc.length + 1) (fl (acc ++ [⟨kd, a, ln, ⟨tx.toArray⟩, nn⟩]))) := h1
              have HB5 : Hid (Below w.heap.size w w5) := ((HB2.out.alloc (by omega) _).alloc (by simp <;> omega) _).grown h2 (by simp <;> omega) (fun g hg => (HO1.out.lt g hg).1)
              clear h1 h2 h3
              go_wp2
              go_roundw
              case rel => exact ⟨a + len, ln, f, acc ++ [⟨kd, a, ln, ⟨tx.toArray⟩, nn⟩], by rw [hlen.out]; omega, by simp; omega, hln, rfl, by go_num, by unfold Hid; simpa using HO5.out, HF2, HB5⟩
              case measure => simp [intOf]; omega
          · rw [if_neg hg] at hF
            simp at hF
      | none, hF, HBK => simp at hF
    · have hF := HF.out
      rw [toksF, if_pos (by rw [hlen.out]; omega)] at hF
      have hR : R = acc ++ [⟨0, a, ln, ⟨#[]⟩, 0⟩] := by injection hF with hF; exact hF.symm
      have HRR := Lib.hid hR
      clear hF hR
      go_wp2_with (at_builtin; go_must (refine wpList_push rfl _ _ rfl w.heap.size _ acc.length acc rfl (HO.out.alloc _) wr.heap.size 0 a ln ⟨#[]⟩ 0 rfl (heap_new' _ _) (by omega) (by simp; omega) ?c4))
      case c4 =>
        intro g cap w5 h1 h2 h3
        have HP : Hid (TksP w R (.returned (.tuple #[.slice (some ⟨g, 0, none⟩) (acc.length + 1) cap, .int .i64 0, .int .i64 0])) w5) := by
          refine ⟨_, rfl, by rw [HRR.out]; simpa using h1, (HB.out.alloc (by omega) _).grown h2 (by simp; omega) (fun g hg => (HO.out.lt g hg).1)⟩
        clear h1 h2 h3
        go_wp2
        exact bodyPost_ret (v := .tuple #[.slice (some ⟨g, 0, none⟩) (acc.length + 1) cap, .int .i64 0, .int .i64 0]) (by simp [results, Try.results19, go_sem]) rfl HP.out
end Go.Proofs.Ytaliplbbmhfenaa

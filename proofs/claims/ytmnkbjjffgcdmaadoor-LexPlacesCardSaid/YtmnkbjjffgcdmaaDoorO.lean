/-
  Contract of the reference's Tokens: what is wrong, and where. Conditions: the string is within the reach.
-/
import Derived.Test.YtmnkbjjffgcdmaaDoorN
import Derived.WalkKit
namespace Go.Proofs.YtmnkbjjffgcdmaaDoor
open Go.ChangeShapes Go.WideShapes Go.ChangeAt Go.RowKit
def RTPost (R : Int × Int) (w : World) : Ending → World → Prop := fun e w' => (∃ v, e = .returned (.tuple #[v, .int .i64 R.1, .int .i64 R.2])) ∧ Below w.heap.size w w'
def RTRel (l : List UInt8) (R : Int × Int) (w : World) (v i j : Value) (wr : World) : Prop :=
  ∃ (c ln a f : Nat) (xs : List Value), a ≤ l.length ∧ c ≤ 8191 ∧ ln ≤ a + 1 ∧ l.length < a + f ∧ i = .int .i64 ln ∧ j = .int .i64 a ∧ wr.ownsRow w.heap.size 27 5 v c xs ∧ R = toksE l f a c ∧ Below w.heap.size w wr ∧ w.heap.size ≤ wr.heap.size
theorem alloc_cells {w : World} {b : Nat} (hb : w.heap.size = b) (arr : Array Value) (e : TypeId) : ∀ (j : Nat) (u : Value), arr.toList[j]? = some u → (w.alloc (.cells arr e)).cell? ((⟨b, 0, none⟩ : Addr).add j) = some u := by
  intro j u h
  subst hb
  have ha : (⟨w.heap.size, 0, none⟩ : Addr).add j = ⟨w.heap.size, j, none⟩ := by
    simp [Addr.add]
    intro h; omega
  rw [ha, World.cell?_alloc_new]
  simpa using h
theorem tok_one {k a b n : Int} {t : ByteArray} : ∀ u ∈ [Value.int .i64 k, .int .i64 a, .int .i64 b, .string t, .int .i64 n], u.oneCell' = true := by
  intro u hu
  simp at hu
  rcases hu with rfl | rfl | rfl | rfl | rfl <;> rfl
set_option maxHeartbeats 4000000 in
set_option maxRecDepth 20000 in
theorem rtokens_some (s : ByteArray) (w : World) (hs : s.size ≤ 65535) (R : Int × Int) (HR : Hid (toksE s.data.toList (s.size + 1) 0 0 = R)) :
    Calls Tryd.prog 6 #[.string s] w (RTPost R w) := by
  obtain ⟨i0, hi, hz0, hz1, hz2⟩ := info_parts Tryd.info27
  have hlen : Hid (s.data.toList.length = s.size) := rfl
  have hsi : (s.size : Int) ≤ 65535 := by omega
  go_enter Tryd.func6, Tryd.ntmps6
  go_wp2_with fail
  go_loopw [5, 6, 7] (RTRel s.data.toList R w) (fun _ _ j _ => s.size - (intOf j).toNat)
  case atStart => exact ⟨0, 1, 0, s.size + 1, [], by omega, by omega, by omega, by rw [hlen.out]; omega, rfl, rfl, World.ownsRow_nil _ _ _ _, HR.out.symm, Below.refl _ _, Nat.le_refl _⟩
  case round =>
    obtain ⟨c, ln, a, f, xs, ha, hc, hln, hf, rfl, rfl, hown, hR, hB, hsz⟩ := hrel
    obtain ⟨ao, cap, rfl⟩ := own_shape hown
    have HO := Lib.hid hown; clear hown
    rw [hlen.out] at ha hf
    have HR2 := Lib.hid hR; clear hR
    by_cases hlt : a < s.size
    · obtain ⟨f, rfl⟩ : ∃ f', f = f' + 1 := ⟨f - 1, by omega⟩
      have hbt := Lib.hid (bt_eq s a hlt)
      have hby := byte_le s a hlt
      cases hbl : blankF (s[a].toNat : Int) s.data.toList a with
      | none =>
        have H3 : Hid (R = ((3 : Int), (a : Int))) := HR2.out.trans (toksE_none (by rw [hlen.out]; exact hlt) (by rw [hbt.out]; exact hbl))
        have HBL := Lib.hid hbl; clear hbl
        go_wp2_with fail
        refine (rblank_any s a _ hlt hs).mono ?_
        rintro e w1 ⟨rfl, rfl⟩
        rw [HBL.out]
        simp only [rbV]
        go_wp2_with fail
        refine bodyPost_ret (v := .tuple #[.slice none 0 0, .int .i64 3, .int .i64 a]) (by simp [results, Tryd.results6, go_sem]) rfl ?_
        refine ⟨⟨_, by rw [H3.out]⟩, by go_grown⟩
      | some p =>
        obtain ⟨n, k⟩ := p
        have hle := blankF_le hbl (by rw [hlen.out]; exact hlt)
        rw [hlen.out] at hle
        obtain ⟨hle1, hle2⟩ := hle
        cases n with
        | succ n =>
          have H3 : Hid (R = toksE s.data.toList f (a + (n + 1)) c) := HR2.out.trans (toksE_blank (by rw [hlen.out]; exact hlt) (by rw [hbt.out]; exact hbl))
          have HBL := Lib.hid hbl; clear hbl
          go_wp2_with fail
          refine (rblank_any s a _ hlt hs).mono ?_
          rintro e w1 ⟨rfl, rfl⟩
          rw [HBL.out]
          simp only [rbV]
          go_wp2_with fail
          go_roundw
          case rel => exact ⟨c, ln + k, a + (n + 1), f, xs, by rw [hlen.out]; omega, hc, by omega, by rw [hlen.out]; omega, by go_num, by go_num, HO.out, H3.out, hB, hsz⟩
          case measure => simp [intOf]; omega
        | zero =>
          have hTE := @toksE_bad s.data.toList f a c k (by rw [hlen.out]; exact hlt) (by rw [hbt.out]; exact hbl)
          have hTM := @toksE_many s.data.toList f a k (by rw [hlen.out]; exact hlt) (by rw [hbt.out]; exact hbl)
          have hTT := @toksE_tok s.data.toList f a c k (by rw [hlen.out]; exact hlt) (by rw [hbt.out]; exact hbl)
          have hG := @nextF_good s.data.toList a (by rw [hlen.out]; exact hlt)
          have HNX := Lib.hid (fun w => rnext_any s a w hlt hs)
          have HBL := Lib.hid hbl; clear hbl
          generalize nextF s.data.toList a = r at *
          by_cases he : r.e = 0
          · have hG2 := hG he
            obtain ⟨hg1, hg2, -⟩ := hG2
            rw [hlen.out] at hg2
            by_cases hc8 : c = 8191
            · subst hc8
              have H3 : Hid (R = ((8 : Int), (a : Int))) := HR2.out.trans (hTM he)
              clear hTE hTM hTT hG
              go_wp2_with fail
              refine (rblank_any s a _ hlt hs).mono ?_
              rintro e w1 ⟨rfl, rfl⟩
              rw [HBL.out]
              simp only [rbV]
              go_wp2_with fail
              refine (HNX.out _).mono ?_
              rintro e w1 ⟨⟨k1, p1, q1, n1, en, tx, rfl, hen⟩, hB1⟩
              have hen2 := hen he
              clear hen
              rw [he, hen2]
              have hs1 := hB1.size
              have hs2 : w.heap.size ≤ w1.heap.size := by omega
              have hB2 : Below w.heap.size w w1 := hB.trans (hB1.mono hsz)
              go_wp2_with fail
              refine bodyPost_ret (v := .tuple #[.slice none 0 0, .int .i64 8, .int .i64 a]) (by simp [results, Tryd.results6, go_sem]) rfl ?_
              refine ⟨⟨_, by rw [H3.out]⟩, by go_grown⟩
            · have H3 : Hid (R = toksE s.data.toList f (a + r.len) (c + 1)) := HR2.out.trans (hTT he hc8)
              have hc9 : ((c : Int) == 8191) = false := by rw [beq_eq_false_iff_ne]; omega
              have hc7 : c < 8191 := by omega
              clear hTE hTM hTT hG
              go_wp2_with fail
              refine (rblank_any s a _ hlt hs).mono ?_
              rintro e w1 ⟨rfl, rfl⟩
              rw [HBL.out]
              simp only [rbV]
              go_wp2_with fail
              refine (HNX.out _).mono ?_
              rintro e w1 ⟨⟨k1, p1, q1, n1, en, tx, rfl, hen⟩, hB1⟩
              have hen2 := hen he
              clear hen
              rw [he, hen2]
              have hs1 := hB1.size
              have hs2 : w.heap.size ≤ w1.heap.size := by omega
              have hB2 : Below w.heap.size w w1 := hB.trans (hB1.mono hsz)
              have HO1 := Lib.hid (own_below HO.out hB1)
              go_wp2_with (at_builtin; refine wpList_append_own _ rfl (.tmp 55) (.tmp 57) 22 rfl w.heap.size 27 i0 _ 5 48 Tryd.underlying22 hi hz0 hz1 hz2 rfl (by decide) _ c xs rfl (own_below HO1.out (by go_grown)) ⟨_, 0, none⟩ 1 1 [.int .i64 k1, .int .i64 p1, .int .i64 ln, .string tx, .int .i64 n1] rfl rfl ?d1 ?d2 ?d3 ?d4 ?d5 ?_)
              case d1 => exact alloc_cells (by simp [go_sem]) _ 27
              case d2 => exact tok_one
              case d3 => unfold maxLen; omega
              case d4 => omega
              case d5 => simp [go_sem]; omega
              intro v' w2 hown' hgrow _
              have hB3 : Below w.heap.size w w2 := below_grown hB2 hs2 HO1.out (by go_grown) hgrow
              clear hB hB2 hB1
              go_wp2
              go_roundw
              case rel => exact ⟨c + 1, ln, a + r.len, f, _, by rw [hlen.out]; omega, by omega, by omega, by rw [hlen.out]; omega, by go_num, by go_num, hown', H3.out, hB3, hB3.size⟩
              case measure => simp [intOf]; omega
          · have H3 : Hid (R = (r.e, (a : Int))) := HR2.out.trans (hTE he)
            have he2 : (r.e == 0) = false := by rw [beq_eq_false_iff_ne]; exact he
            clear hTE hTM hTT hG
            go_wp2_with fail
            refine (rblank_any s a _ hlt hs).mono ?_
            rintro e w1 ⟨rfl, rfl⟩
            rw [HBL.out]
            simp only [rbV]
            go_wp2_with fail
            refine (HNX.out _).mono ?_
            rintro e w1 ⟨⟨k1, p1, q1, n1, en, tx, rfl, hen⟩, hB1⟩
            clear hen
            have hs1 := hB1.size
            have hs2 : w.heap.size ≤ w1.heap.size := by omega
            have hB2 : Below w.heap.size w w1 := hB.trans (hB1.mono hsz)
            go_wp2_with fail
            refine bodyPost_ret (v := .tuple #[.slice none 0 0, .int .i64 r.e, .int .i64 a]) (by simp [results, Tryd.results6, go_sem]) rfl ?_
            refine ⟨⟨_, by rw [H3.out]⟩, by go_grown⟩
    · have H3 : Hid (R = (0, 0)) := HR2.out.trans (toksE_end (by rw [hlen.out]; omega))
      go_wp2_with (at_builtin; refine wpList_append_own _ rfl (.tmp 62) (.tmp 66) 22 rfl w.heap.size 27 i0 _ 5 48 Tryd.underlying22 hi hz0 hz1 hz2 rfl (by decide) _ c xs rfl (HO.out.alloc _) ⟨wr.heap.size, 0, none⟩ 1 1 [.int .i64 0, .int .i64 a, .int .i64 ln, .string ⟨#[]⟩, .int .i64 0] rfl rfl ?c1 ?c2 ?c3 ?c4 ?c5 ?_)
      case c1 => exact alloc_cells rfl _ 27
      case c2 => exact tok_one
      case c3 => unfold maxLen; omega
      case c4 => omega
      case c5 => simp [go_sem]; omega
      intro v' w1 hown' hgrow _
      have hB1 : Below w.heap.size w w1 := below_grown hB hsz HO.out (by go_grown) hgrow
      clear hown' hgrow
      go_wp2
      refine bodyPost_ret (v := .tuple #[v', .int .i64 0, .int .i64 0]) (by simp [results, Tryd.results6, go_sem]) rfl ?_
      refine ⟨⟨_, by rw [H3.out]⟩, hB1⟩
set_option maxHeartbeats 1000000 in
theorem rtokens_any (s : ByteArray) (w : World) (hr : (s.size : Int) ≤ 140737488351232) : Calls Tryd.prog 6 #[.string s] w (RTPost (toksR s.data.toList) w) := by
  have hlen : s.data.toList.length = s.size := rfl
  unfold toksR
  rw [hlen]
  by_cases h : 65535 < s.size
  · rw [if_pos h]
    have hi : (65535 : Int) < s.size := by omega
    go_enter Tryd.func6, Tryd.ntmps6
    go_wp2
    refine bodyPost_ret (v := .tuple #[.slice none 0 0, .int .i64 1, .int .i64 65535]) (by simp [results, Tryd.results6, go_sem]) rfl ?_
    refine ⟨⟨_, rfl⟩, by go_grown⟩
  · rw [if_neg h]
    exact rtokens_some s w (by omega) _ rfl
end Go.Proofs.YtmnkbjjffgcdmaaDoor

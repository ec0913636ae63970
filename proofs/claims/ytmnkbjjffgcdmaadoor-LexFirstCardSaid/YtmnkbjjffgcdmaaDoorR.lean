/-
  LexFirst: the walk, over the plain law. Conditions: the strings are within the reach; the variables that are read are there.
-/
import Derived.Test.YtmnkbjjffgcdmaaDoorQ
import Derived.Lib.SmallJoins
namespace Go.Proofs.YtmnkbjjffgcdmaaDoor
open Go.ChangeShapes Go.WideShapes Go.ChangeAt Go.RowKit
/-- What is wrong at a place is wrong whatever stands behind. -/
def FirstLaw : Prop := ∀ (l more : List UInt8), l.length ≤ 60000 → more.length ≤ 5000 → (toksR l).1 = 2 → ∃ a : Nat, (toksR l).2 = a ∧ a < l.length ∧ toksR (l.take (a + 1) ++ 32 :: more) = (2, (a : Int))
theorem tks_any {l : List UInt8} {R : Int × Int} {w : World} {e : Ending} {w' : World} (h : TksPost l R w e w') : (∃ v, e = .returned (.tuple #[v, .int .i64 R.1, .int .i64 R.2])) ∧ Below w.heap.size w w' := by
  obtain ⟨h1 | h1, hB⟩ := h
  · exact ⟨⟨_, h1.2⟩, hB⟩
  · obtain ⟨h2, v, pts, ln, h3, -⟩ := h1
    exact ⟨⟨v, by rw [h3, h2]⟩, hB⟩
set_option maxHeartbeats 4000000 in
set_option maxRecDepth 20000 in
theorem first_walk (HL : FirstLaw) (s more : ByteArray) (m : Int) (w : World) (hr : (s.size : Int) ≤ 140737488351232) (hr2 : (more.size : Int) ≤ 140737488351232) (hm : w.cell? ⟨2, 0, none⟩ = some (.int .i64 m)) (htab : Lib.TabIs Tryd.prog w "strings.asciiSpace" .u8 Lib.asciiSpaceTab) :
    Calls Tryd.prog 4 #[.string s, .string more] w fun e w' => e = .returned (.bool true) ∧ Below w.heap.size w w' := by
  have hmb := World.block_lt_of_cell? w _ hm
  have HLW : Hid (∀ (W : World) (t : ByteArray), Below w.heap.size w W → (t.size : Int) ≤ 140737488351232 → Calls Tryd.prog 5 #[.string t] W (TksPost t.data.toList (toksR t.data.toList) W)) := by
    intro W t hB ht
    exact tokens_any t m W ht ((bcell hB _ _ hmb).trans hm) (Joins.tab_stays (g := 0) (by kernel_rfl) htab hB (Nat.le_refl _))
  have HLl := Lib.hid (HL s.data.toList more.data.toList)
  rw [show s.data.toList.length = s.size from rfl, show more.data.toList.length = more.size from rfl] at HLl
  have HRT := Lib.hid (fun W => rtokens_any s W hr)
  have HT := Lib.hid (HLW.out w s (Below.refl _ _) hr)
  clear hm htab hmb HL
  generalize toksR s.data.toList = R at *
  obtain ⟨E, A⟩ := R
  by_cases h2 : E = 2
  · subst h2
    by_cases h6 : (60000 : Int) < s.size
    · have h6b := h6
      go_enter Tryd.func4, Tryd.ntmps4
      go_wp2_with fail
      refine HT.out.mono ?_
      rintro e w1 hp
      obtain ⟨⟨v1, rfl⟩, hB1⟩ := tks_any hp
      clear hp
      have hs1 := hB1.size
      go_wp2_with fail
      refine (HRT.out _).mono ?_
      rintro e w2 ⟨⟨v2, rfl⟩, hB2⟩
      have hs2 := hB2.size
      have hB3 : Below w.heap.size w w2 := hB1.trans (hB2.mono hs1)
      go_wp2_with fail
      refine bodyPost_ret (v := .bool true) (by simp [results, Tryd.results4, go_sem]) rfl ⟨rfl, hB3⟩
    · by_cases h5 : (5000 : Int) < more.size
      · have h5b := h5
        go_enter Tryd.func4, Tryd.ntmps4
        go_wp2_with fail
        refine HT.out.mono ?_
        rintro e w1 hp
        obtain ⟨⟨v1, rfl⟩, hB1⟩ := tks_any hp
        clear hp
        have hs1 := hB1.size
        go_wp2_with fail
        refine (HRT.out _).mono ?_
        rintro e w2 ⟨⟨v2, rfl⟩, hB2⟩
        have hs2 := hB2.size
        have hB3 : Below w.heap.size w w2 := hB1.trans (hB2.mono hs1)
        go_wp2_with fail
        refine bodyPost_ret (v := .bool true) (by simp [results, Tryd.results4, go_sem]) rfl ⟨rfl, hB3⟩
      · obtain ⟨a, rfl, ha, hT2⟩ := HLl.out (by omega) (by omega) rfl
        have ha1 : (0 : Int) ≤ a := by omega
        have ha2 : (a : Int) < s.size := by omega
        have ha3 : (a : Int) + 1 ≤ s.size := by omega
        have HT2 := Lib.hid hT2
        clear hT2
        go_enter Tryd.func4, Tryd.ntmps4
        go_wp2_with fail
        refine HT.out.mono ?_
        rintro e w1 hp
        obtain ⟨⟨v1, rfl⟩, hB1⟩ := tks_any hp
        clear hp
        have hs1 := hB1.size
        go_wp2_with fail
        refine (HRT.out _).mono ?_
        rintro e w2 ⟨⟨v2, rfl⟩, hB2⟩
        have hs2 := hB2.size
        have hB3 : Below w.heap.size w w2 := hB1.trans (hB2.mono hs1)
        go_wp2_with fail
        have HT3 := Lib.hid (HLW.out w2 (s.extract 0 (a + 1) ++ ⟨#[32]⟩ ++ more) hB3 (by simp only [ByteArray.size_append, ByteArray.size_extract]; show ((_ + 1 + more.size : Nat) : Int) ≤ _; omega))
        have e2 : (s.extract 0 (a + 1) ++ ⟨#[32]⟩ ++ more).data.toList = s.data.toList.take (a + 1) ++ 32 :: more.data.toList := by
          simp
        rw [e2, HT2.out] at HT3
        refine HT3.out.mono ?_
        rintro e w3 hp
        obtain ⟨⟨v3, rfl⟩, hB4⟩ := tks_any hp
        clear hp
        have hs3 := hB4.size
        go_wp2_with fail
        refine bodyPost_ret (v := .bool true) (by simp [results, Tryd.results4, go_sem]) rfl ⟨rfl, hB3.trans (hB4.mono (by omega))⟩
  · have h2b : (E == 2) = false := by rw [beq_eq_false_iff_ne]; exact h2
    go_enter Tryd.func4, Tryd.ntmps4
    go_wp2_with fail
    refine HT.out.mono ?_
    rintro e w1 hp
    obtain ⟨⟨v1, rfl⟩, hB1⟩ := tks_any hp
    clear hp
    have hs1 := hB1.size
    go_wp2_with fail
    refine (HRT.out _).mono ?_
    rintro e w2 ⟨⟨v2, rfl⟩, hB2⟩
    have hs2 := hB2.size
    have hB3 : Below w.heap.size w w2 := hB1.trans (hB2.mono hs1)
    go_wp2_with fail
    refine bodyPost_ret (v := .bool true) (by simp [results, Tryd.results4, go_sem]) rfl ⟨rfl, hB3⟩
end Go.Proofs.YtmnkbjjffgcdmaaDoor

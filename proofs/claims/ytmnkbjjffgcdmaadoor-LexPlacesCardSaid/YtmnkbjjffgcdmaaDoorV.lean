/-
  LexPlaces: the walk. Conditions: the string is within the reach; the variables that are read are there.
-/
import Derived.Test.YtmnkbjjffgcdmaaDoorU
import Derived.Test.YtmnkbjjffgcdmaaDoorQ
import Derived.Lib.SmallJoins
namespace Go.Proofs.YtmnkbjjffgcdmaaDoor
open Go.ChangeShapes Go.WideShapes Go.ChangeAt Go.RowKit
set_option maxHeartbeats 4000000 in
set_option maxRecDepth 200000 in
theorem places_walk (s : ByteArray) (m : Int) (w : World) (hr : (s.size : Int) ≤ 140737488351232) (hm : w.cell? ⟨2, 0, none⟩ = some (.int .i64 m)) (htab : Lib.TabIs Tryd.prog w "strings.asciiSpace" .u8 Lib.asciiSpaceTab) :
    Calls Tryd.prog 3 #[.string s] w fun e w' => e = .returned (.bool true) ∧ Below w.heap.size w w' := by
  have HT := Lib.hid (tokens_any s m w hr hm htab)
  have HRT := Lib.hid (fun W => rtokens_any s W hr)
  have hbig : Hid (toksR s.data.toList = (0, 0) → s.size ≤ 65535) := by
    intro h
    unfold toksR at h
    rw [show s.data.toList.length = s.size from rfl] at h
    split at h
    · exact absurd (show (1 : Int) = 0 from congrArg Prod.fst h) (by decide)
    · omega
  clear hm htab
  generalize toksR s.data.toList = R at *
  obtain ⟨E1, A1⟩ := R
  go_enter Tryd.func3, Tryd.ntmps3
  go_wp2_with fail
  refine HT.out.mono ?_
  rintro e w1 ⟨h1, hB1⟩
  have hs1 := hB1.size
  rcases h1 with ⟨hne, rfl⟩ | ⟨hR, v, pts, ln, rfl, hp, ho⟩
  · have hne2 : (E1 == 0) = false := by rw [beq_eq_false_iff_ne]; exact hne
    clear hne hbig
    go_wp2_with fail
    refine (HRT.out _).mono ?_
    rintro e w2 ⟨⟨v2, rfl⟩, hB2⟩
    have hB3 : Below w.heap.size w w2 := hB1.trans (hB2.mono hs1)
    go_wp2_with fail
    refine bodyPost_ret (v := .bool true) (by simp [results, Tryd.results3, go_sem]) rfl ⟨rfl, hB3⟩
  · obtain ⟨rfl, rfl⟩ := Prod.mk.inj hR
    have hs := hbig.out rfl
    clear hR hbig
    have hsi : (s.size : Int) ≤ 65535 := by omega
    obtain ⟨g, cap, E, rfl, hmax, hE0, hE1, hAt⟩ := places_at hp ho
    clear hp ho
    generalize hcn : pts.length = c at hmax hE1 hAt ⊢
    clear hcn
    obtain ⟨n, hn⟩ : ∃ n, n = c + 1 := ⟨_, rfl⟩
    have hn9 : (n : Int) ≤ 9223372036854775807 := by omega
    clear hmax
    rw [← hn] at hE1 ⊢
    have hn1 : 1 ≤ n := by omega
    have hn2 : ((n : Int) == 0) = false := by simp; omega
    have HN := Lib.hid hn; clear hn
    have HAt := Lib.hid hAt; clear hAt
    have HE0 := Lib.hid hE0; clear hE0
    have HE1 := Lib.hid hE1; clear hE1
    go_wp2_with fail
    refine (HRT.out _).mono ?_
    rintro e w2 ⟨⟨v2, rfl⟩, hB2⟩
    have hs2 := hB2.size
    have hB3 : Below w.heap.size w w2 := hB1.trans (hB2.mono hs1)
    go_wp2_with fail
    go_loopw [9, 10] (fun p i wr => ∃ k : Nat, k ≤ n ∧ p = .int .i64 (E k) ∧ i = .int .i64 k ∧ Below w1.heap.size w1 wr) (fun _ i _ => n - (intOf i).toNat)
    case atStart => exact ⟨0, by omega, by rw [HE0.out]; rfl, rfl, hB2⟩
    case round =>
      obtain ⟨k, hk, rfl, rfl, hBr⟩ := hrel
      by_cases hlt : k < n
      · obtain ⟨K, N, ln2, A, T, c0, c1, c2, c3, c4, hEA, hAs, hgap, hKc, hT⟩ := HAt.out k (by have := HN.out; omega)
        have hg := World.block_lt_of_cell? w1 _ c0
        have d0 := (hBr.cell (p := ⟨g, 5 * k + 0, none⟩) hg).trans c0
        have d1 := (hBr.cell (p := ⟨g, 5 * k + 1, none⟩) hg).trans c1
        have d2 := (hBr.cell (p := ⟨g, 5 * k + 2, none⟩) hg).trans c2
        have d3 := (hBr.cell (p := ⟨g, 5 * k + 3, none⟩) hg).trans c3
        have d4 := (hBr.cell (p := ⟨g, 5 * k + 4, none⟩) hg).trans c4
        clear c0 c1 c2 c3 c4
        rw [Nat.mul_comm, Nat.add_zero] at d0
        rw [Nat.mul_comm] at d1 d2 d3 d4
        simp only at hg
        have hsr := hBr.size
        have hgr : g < wr.heap.size := by omega
        have HE := Lib.hid hT
        have HG := Lib.hid hgap
        clear hT hgap
        have hAi : (A : Int) ≤ s.size := by omega
        have hEi : (E k : Int) ≤ A := by omega
        have hkk : ((K == 0) = true ∧ ((k : Int) == (n : Int) - 1) = true) ∨ ((K == 0) = false ∧ ((k : Int) == (n : Int) - 1) = false) := by
          have hnc := HN.out
          by_cases hK : K = 0
          · have := hKc.1 hK
            exact .inl ⟨by simpa using hK, by simp; omega⟩
          · have : ¬ k = c := fun h => hK (hKc.2 h)
            exact .inr ⟨by simpa using hK, by simp; omega⟩
        clear hKc
        have hkk2 : (K == 0) = ((k : Int) == (n : Int) - 1) := by rcases hkk with ⟨h1, h2⟩ | ⟨h1, h2⟩ <;> rw [h1, h2]
        have hn0 : (0 : Int) ≤ (n : Int) - 1 := by omega
        generalize E k = p0 at *
        clear hkk
        have hd1 : decide (A < p0) = false := by simp; omega
        have hd2 : decide (s.size < A) = false := by simp; omega
        go_wp2_with fail
        go_loop [9] (fun p => ∃ q : Nat, q ≤ A ∧ p = .int .i64 q ∧ Hid (Gap s.data.toList q A)) (fun p => A - (intOf p).toNat)
        case atStart => exact ⟨p0, by omega, rfl, HG⟩
        case round =>
          obtain ⟨q, hq, rfl, HQ⟩ := hrel
          by_cases hqa : q < A
          · obtain ⟨bn, bk, hql, hbf, hgn⟩ := HQ.out.next hqa
            have hle := hgn.le
            have hql2 : q < s.size := hql
            have HB : Hid (∀ W : World, Calls Tryd.prog 7 #[.string s, .int .i64 q] W fun e w' => e = .returned (.tuple #[.int .i64 ((bn + 1 : Nat) : Int), .int .i64 bk, .bool true]) ∧ W = w') := by
              intro W
              refine (rblank_any s q W hql2 hs).mono ?_
              rintro e w' ⟨rfl, rfl⟩
              rw [bt_eq s q hql2] at hbf
              rw [hbf]
              exact ⟨rfl, rfl⟩
            have HGN := Lib.hid hgn
            clear hgn hbf hql
            generalize hmm : bn + 1 = b1 at *
            have hb1 : 1 ≤ b1 := by omega
            clear hmm
            have hb2 : ((b1 : Int) == 0) = false := by simp; omega
            go_wp2_with fail
            refine (HB.out _).mono ?_
            rintro e w' ⟨rfl, rfl⟩
            go_wp2_with fail
            go_round
            case rel => exact ⟨q + b1, by omega, by go_num, HGN⟩
            case measure => simp [intOf]; omega
          · obtain rfl : q = A := by omega
            by_cases hK3 : K = 3
            · subst hK3
              obtain ⟨hsz, hex, hen⟩ : q + T.size + 2 ≤ s.size ∧ s.extract (q + 1) (q + T.size + 1) = T ∧ E (k + 1) = q + T.size + 2 := by
                rcases HE.out with h | h
                · exact absurd rfl h.1
                · exact h.2
              have HEN := Lib.hid hen
              clear hen
              have t0 : IntKind.i64.wrap ((q : Int) + 1) = (q : Int) + 1 := IntWalk.i64_in _ (by omega)
              have t1 : (q : Int) + (T.size + 2) ≤ s.size := by omega
              have t2 : (q : Int) + 1 ≤ (q : Int) + (T.size + 2) - 1 := by omega
              have t3 : (0 : Int) ≤ (q : Int) + (T.size + 2) - 1 := by omega
              have t4 : decide ((s.size : Int) < (q : Int) + (T.size + 2)) = false := by simp; omega
              have t5 : decide (s.size < q + (T.size + 2)) = false := by simp; omega
              have t6 : IntKind.i64.wrap ((q : Int) + (T.size + 2)) = (q : Int) + (T.size + 2) := IntWalk.i64_in _ (by omega)
              have t7 : ((q : Int) + (T.size + 2) - 1).toNat = q + T.size + 1 := by omega
              have t8 : IntKind.i64.wrap ((q : Int) + (T.size + 2) - 1) = (q : Int) + (T.size + 2) - 1 := IntWalk.i64_in _ (by omega)
              have t9 : (q : Int) + (T.size + 2) - 1 ≤ s.size := by omega
              have t10 : ((q : Int) + 1).toNat = q + 1 := by omega
              go_wp2_with fail
              go_quiet (fail)
              clear t0 t4 t5 t6 t7 t8 t10
              go_wp2_with fail
              go_roundw
              case rel => exact ⟨k + 1, by omega, by rw [HEN.out]; go_num, by go_num, (hBr.alloc hsr _).trans (below_drewN _ _)⟩
              case measure => simp [intOf]; omega
            · have hk3a : (K == 3) = false := by simpa using hK3
              have hk3b : (K != 3) = true := by simpa using hK3
              obtain ⟨-, hsz, hex, hen⟩ : ¬ K = 3 ∧ q + T.size ≤ s.size ∧ s.extract q (q + T.size) = T ∧ E (k + 1) = q + T.size := by
                rcases HE.out with h | h
                · exact h
                · exact absurd h.1 hK3
              have HEN := Lib.hid hen
              clear hen hK3
              have t1 : (q : Int) + T.size ≤ s.size := by omega
              have t2 : (q : Int) ≤ (q : Int) + T.size := by omega
              have t3 : (0 : Int) ≤ (q : Int) + T.size := by omega
              have t4 : decide ((s.size : Int) < (q : Int) + T.size) = false := by simp; omega
              have t5 : decide (s.size < q + T.size) = false := by simp; omega
              have t6 : IntKind.i64.wrap ((q : Int) + T.size) = (q : Int) + T.size := IntWalk.i64_in _ (by omega)
              have t7 : ((q : Int) + T.size).toNat = q + T.size := by omega
              go_wp2_with fail
              go_quiet (fail)
              clear t4 t5 t6 t7
              go_wp2_with fail
              go_roundw
              case rel => exact ⟨k + 1, by omega, by rw [HEN.out]; go_num, by go_num, (hBr.alloc hsr _).trans (below_drewN _ _)⟩
              case measure => simp [intOf]; omega
      · obtain rfl : k = n := by omega
        have he : (E k : Int) = s.size := by rw [HE1.out]
        go_wp2_with fail
        refine bodyPost_ret (v := .bool true) (by simp [results, Tryd.results3, go_sem]) rfl ⟨rfl, hB1.trans (hBr.mono hs1)⟩
end Go.Proofs.YtmnkbjjffgcdmaaDoor

/-
  The reference's renamed; slices.Clone of ways.
-/
import Derived.Test.YtioacgjggogflabG
namespace Go.Proofs.Ytioacgjggogflab
open Go.ChangeShapes Go.WideShapes Go.ChangeAt Go.RowKit Go.Deep Go.Joins Go.Instr
theorem Ow.keep {α : Type} {w w' : World} {base E sz : Nat} {enc : α → Nat → Value} {v : Value} {l : List α} (h : Ow w base E sz enc v l) (hb : Below w.heap.size w w') : Ow w' base E sz enc v l := own_below h hb
theorem Ow.alloc {α : Type} {w : World} {base E sz : Nat} {enc : α → Nat → Value} {v : Value} {l : List α} (h : Ow w base E sz enc v l) (o : Obj) : Ow (w.alloc o) base E sz enc v l := h.keep ((Below.refl _ _).alloc (Nat.le_refl _) _)
theorem Ow.lt {α : Type} {w : World} {base E sz : Nat} {enc : α → Nat → Value} {v : Value} {l : List α} (h : Ow w base E sz enc v l) : ∀ g, v.ownBlock = some g → base ≤ g ∧ g < w.heap.size := fun g hg => World.ownsRow.lt h g hg
/-- A way, its place by its new number. -/
def ren (N : List Int) (t : TrD) : TrD := { t with to := N.getD t.to.toNat default }
theorem tr_one {w : World} {t : TrD} (h : t.ok w) : ∀ j, j < 9 → (TrD.enc t j).oneCell' = true := by
  obtain ⟨a4, q4, e4, -, -⟩ := sl_open h.av
  obtain ⟨a5, q5, e5, -, -⟩ := sl_open h.mv
  intro j hj
  match j, hj with
  | 0, _ => rfl
  | 1, _ => rfl
  | 2, _ => rfl
  | 3, _ => rfl
  | 4, _ => show t.av.oneCell' = true; rw [e4]; rfl
  | 5, _ => show t.mv.oneCell' = true; rw [e5]; rfl
  | 6, _ => rfl
  | 7, _ => rfl
  | 8, _ => rfl
  | _ + 9, h => exact absurd h (by omega)
theorem map_take_snoc {α β : Type} [Inhabited α] (f : α → β) (l : List α) (k : Nat) (h : k < l.length) : (l.take (k + 1)).map f = (l.take k).map f ++ [f (l.getD k default)] := by
  rw [List.take_succ_eq_append_getElem h, List.map_append, List.getD_eq_getElem?_getD, List.getElem?_eq_getElem h]; rfl
set_option maxHeartbeats 4000000 in
theorem renamed_any (v nv : Value) (l : List TrD) (N : List Int) (w : World) (hs : Sl w 9 TrD.enc v l) (hN : Sl w 1 iEnc nv N) (hok : ∀ t ∈ l, t.ok w) (hto : ∀ t ∈ l, inF N.length t.to = true) (hz : l.length ≤ 1048576) :
    Calls Try.prog 19 #[v, nv] w fun e w' => ∃ v', e = .returned v' ∧ Ow w' w.heap.size 40 9 TrD.enc v' (l.map (ren N)) ∧ Below w.heap.size w w' := by
  obtain ⟨aa, ca, rfl, ma, HA⟩ := sl_open hs
  obtain ⟨an, cn, rfl, mn, HNN⟩ := sl_open hN
  have HK := Lib.hid hok; have HT := Lib.hid hto
  clear hs hN hok hto
  go_enter Try.func19, Try.ntmps19
  go_wp2_with fail
  go_loopw [5, 6] (fun d i wr => ∃ k : Nat, k ≤ l.length ∧ i = .int .i64 k ∧ Hid (Ow wr w.heap.size 40 9 TrD.enc d ((l.take k).map (ren N))) ∧ Hid (Below w.heap.size w wr)) (fun _ i _ => l.length - (intOf i).toNat)
  case atStart => exact ⟨0, Nat.zero_le _, rfl, ow_nil _ _ _ _ _, Below.refl _ _⟩
  case round =>
    obtain ⟨k, hk, rfl, hown, hB⟩ := hrel
    obtain ⟨ad, cd, rfl⟩ := hown.out.slice
    by_cases hlt : k < l.length
    · obtain ⟨ba, oa, rfl, hba, hca⟩ := HA.out (by omega)
      have hca := fun j hj => (hB.out.cell (p := ⟨ba, oa + k * 9 + j, none⟩) hba).trans (hca k hlt j hj)
      have hX := (HK.out (l.getD k default) (mem_getD hlt)).keep hB.out
      have hX7 := HT.out (l.getD k default) (mem_getD hlt)
      have HTT := Lib.hid (map_take_snoc (ren N) l k hlt)
      have hml : ((l.take k).map (ren N)).length ≤ 1048576 := by simp; omega
      generalize hDk : (l.take k).map (ren N) = D at *
      clear hDk
      generalize l.getD k default = x at *
      obtain ⟨x0, x1, x2, x3, x4, x5, x6, x7, x8, xa, xm⟩ := x
      have h1 := tr_one hX
      have HAV := hX.av; have HMV := hX.mv
      simp only [inF, Bool.and_eq_true, decide_eq_true_eq] at HAV HMV hX7
      obtain ⟨q1, q2⟩ := hX7
      obtain ⟨a4, q4, rfl, -, -⟩ := sl_open HAV
      obtain ⟨a5, q5, rfl, -, -⟩ := sl_open HMV
      obtain ⟨p, rfl⟩ : ∃ p : Nat, x7 = (p : Int) := ⟨x7.toNat, by omega⟩
      have hpn : p < N.length := by omega
      obtain ⟨bn, on, rfl, hbn, hcn⟩ := HNN.out (by omega)
      have n0 := (hB.out.cell (p := ⟨bn, on + p * 1 + 0, none⟩) hbn).trans (hcn p hpn 0 (by omega))
      simp only [iEnc, Nat.mul_one, Nat.add_zero] at n0
      have hren : Hid (ren N ⟨x0, x1, x2, x3, .slice a4 xa.length q4, .slice a5 xm.length q5, x6, (p : Int), x8, xa, xm⟩ = ⟨x0, x1, x2, x3, .slice a4 xa.length q4, .slice a5 xm.length q5, x6, N.getD p default, x8, xa, xm⟩) := rfl
      rw [hren.out] at HTT
      generalize N.getD p default = y at *
      have c0 := hca 0 (by omega); have c1 := hca 1 (by omega); have c2 := hca 2 (by omega); have c3 := hca 3 (by omega); have c4 := hca 4 (by omega); have c5 := hca 5 (by omega); have c6 := hca 6 (by omega); have c7 := hca 7 (by omega); have c8 := hca 8 (by omega)
      clear hca hcn hX HAV HMV h1 hren
      simp only [TrD.enc, Nat.add_zero] at c0 c1 c2 c3 c4 c5 c6 c7 c8
      have hsz := hB.out.size
      have hba2 : ba < wr.heap.size := Nat.lt_of_lt_of_le hba hsz
      have hbn2 : bn < wr.heap.size := Nat.lt_of_lt_of_le hbn hsz
      have hp0 : (0 : Int) ≤ (p : Int) := by omega
      go_wp2_with (at_builtin; go_must (refine wpList_push elt33 rfl _ _ rfl w.heap.size TrD.enc _ D rfl ((hown.out.alloc _).alloc _) (wr.heap.size + 1) ⟨x0, x1, x2, x3, .slice a4 xa.length q4, .slice a5 xm.length q5, x6, y, x8, xa, xm⟩ _ rfl (heap_two_b _ _ _) rfl (by intro u hu; simp at hu; rcases hu with rfl | rfl | rfl | rfl | rfl | rfl | rfl | rfl | rfl <;> rfl) (by omega) (by simp; omega) ?c4))
      case c4 =>
        intro g cap w5 h1 h2 h3
        have HO5 : Hid (Ow w5 w.heap.size 40 9 TrD.enc (.slice (some ⟨g, 0, none⟩) (D.length + 1) cap) ((l.take (k + 1)).map (ren N))) := by rw [HTT.out]; exact h1
        have HB5 : Hid (Below w.heap.size w w5) := ((hB.out.alloc hsz _).alloc (by simp; omega) _).grown h2 (by simp; omega) (fun q hq => (hown.out.lt q hq).1)
        clear h1 h2 h3
        go_wp2
        go_roundw
        case rel => exact ⟨k + 1, by omega, by go_num, HO5, HB5⟩
        case measure => simp [intOf]; omega
    · obtain rfl : k = l.length := by omega
      have hO := hown.out
      rw [List.take_length] at hO
      have HO := Lib.hid hO
      clear hO hown
      go_wp2
      go_ret
      exact ⟨_, rfl, by simpa using HO.out, hB.out⟩
end Go.Proofs.Ytioacgjggogflab

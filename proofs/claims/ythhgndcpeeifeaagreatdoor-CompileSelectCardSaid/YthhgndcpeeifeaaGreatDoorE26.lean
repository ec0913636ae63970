/- Part of the proof of CompileForCardSaid. -/
import Derived.Test.YthhgndcpeeifeaaGreatDoorE23
import Derived.RangeFuncBox
import Derived.RangeFuncCalls
import Derived.RangeFuncLeaves
import Derived.OwnWalkIn
import Derived.TacticsInMore
import Derived.Shelf.RegionOpen
import Derived.LoopNIn
import Derived.LoopIn
set_option linter.unusedVariables false
set_option linter.unusedSimpArgs false
set_option linter.unusedSectionVars false
set_option linter.constructorNameAsVariable false
namespace Go.Proofs.Lx6
open Go.ChangeShapes Go.WideShapes Go.ChangeAt Go.RowKit Go.Shelf
attribute [local go_sem] Oper.semAt_some
theorem lines_fn (s : ByteArray) (w : World) :
    Calls Tryz.prog 214 #[.string s] w fun e w' => e = .returned (.func (.func 289) #[] #[.pointer (some ⟨w.heap.size, 0, none⟩)]) ∧ w' = w.alloc (.cells #[.string s] 9) := by
  go_enter Tryz.func214, Tryz.ntmps214
  go_wp2_with fail
  go_ret
  exact ⟨rfl, rfl⟩
/-- A text is its lines, one behind the other. -/
def IsL : List ByteArray → ByteArray → Prop
  | [], s => s.size = 0
  | x :: xs, s => 0 < s.size ∧ ∃ t : ByteArray, ((∃ i : Nat, Lib.indexByte s.data.toList 10 = (i : Int) ∧ i < s.size ∧ x = s.extract 0 (i + 1) ∧ t = s.extract (i + 1) s.size) ∨ (Lib.indexByte s.data.toList 10 < 0 ∧ x = s ∧ t = ⟨#[]⟩)) ∧ t.size < s.size ∧ IsL xs t
def boxLen (bx : Nat) (wr : World) : Nat := match wr.cell? ⟨bx, 0, none⟩ with
  | some (.string t) => t.size
  | _ => 0
set_option maxHeartbeats 2000000 in
set_option maxRecDepth 100000 in
theorem lines_in {n l bx : Nat} {J : Nat → World → Prop} {L : List ByteArray} (hn : 2 ≤ n) (hab : ∀ i W t, J i W → J i (W.setCell ⟨bx, 0, none⟩ (.string t))) (hdr : ∀ i W, J i W → J i W.drew) (hfz : ∀ i W, J i W → W.frozen? ⟨bx, 0, none⟩ = false)
    (hY : ∀ i x W, J i W → L[i]? = some x → YieldAt Fence.wide (n - 1) Tryz.prog l #[.string x] W fun e W' => e = .returned (.bool true) ∧ J (i + 1) W' ∧ W'.cell? ⟨bx, 0, none⟩ = W.cell? ⟨bx, 0, none⟩)
    {W : World} {s : ByteArray} (h0 : J 0 W) (hc : W.cell? ⟨bx, 0, none⟩ = some (.string s)) (hL : IsL L s) (hmax : s.size ≤ 1000000) :
    CallsIn Fence.wide n Tryz.prog 289 #[.func (.yield l) #[] #[], .pointer (some ⟨bx, 0, none⟩)] W fun e W' => (∃ v, e = .returned v) ∧ J L.length W' := by
  refine callsIn_of_wp Tryz.func289 rfl trivial ?_ rfl
  simp only [Tryz.ntmps289, List.size_toArray, List.length_cons, List.length_nil, Nat.reduceAdd, Nat.reduceSub, Array.replicate_succ, Array.replicate_zero, List.push_toArray, List.append_toArray, List.nil_append, List.cons_append]
  gi_wp2
  gi_loopw [3, 4] (fun a b wr => ∃ (i : Nat) (t : ByteArray), i ≤ L.length ∧ wr.cell? ⟨bx, 0, none⟩ = some (.string t) ∧ IsL (L.drop i) t ∧ t.size ≤ 1000000 ∧ J i wr) (fun a b wr => boxLen bx wr)
  case atStart => exact ⟨0, s, Nat.zero_le _, hc, hL, hmax, h0⟩
  case round =>
    obtain ⟨i, t, hi, ht, hl, htm, hJ⟩ := hrel
    have hf := hfz i wr hJ
    by_cases hlt : i < L.length
    · rw [List.drop_eq_getElem_cons hlt] at hl
      obtain ⟨h1, t2, h2, h3, h4⟩ := hl
      have hx := List.getElem?_eq_getElem hlt
      generalize L[i] = x at *
      rcases h2 with ⟨k, hk, hks, rfl, rfl⟩ | ⟨hk, hxt, rfl⟩
      · have e10 : (10 : Int).toNat.toUInt8 = 10 := by decide
        have hk0 : ¬ ((k : Int) < 0) := by omega
        have hmx : Tryz.prog.follows .mixedOrders = true := by kernel_rfl
        have hks1 : (k : Int) + 1 ≤ (t.size : Int) := by omega
        have hks2 : (0 : Int) ≤ (k : Int) + 1 := by omega
        have hks3 : (k : Int) < (t.size : Int) := by omega
        have hwr : wrap64 ((k : Int) + 1) = (k : Int) + 1 := IntWalk.wrap64_in _ (by constructor <;> omega)
        gi_wp2
        refine ⟨trivial, fun _ => by omega, (callsIn_wide.2 (Tryz.strings_IndexByte t 10 _)).mono ?_⟩
        rintro e w' ⟨rfl, rfl⟩
        rw [e10, hk]
        gi_wp2
        gi_region_o
        obtain ⟨fn, tmps, assign, body, hy, hR⟩ := hY i (t.extract 0 (k + 1)) _ (hdr _ _ (hab _ _ (t.extract (k + 1) t.size) hJ)) hx
        have hcs : (w'.setCell ⟨bx, 0, none⟩ (.string (t.extract (k + 1) t.size))).cell? ⟨bx, 0, none⟩ = some (.string (t.extract (k + 1) t.size)) := World.cell?_setCell_same' _ _ _ (by rw [ht]; rfl)
        gi_wp2
        refine ⟨fun _ => by omega, hR.mono ?_⟩
        rintro e W3 ⟨rfl, hJ3, hc3⟩
        have hc4 : W3.cell? ⟨bx, 0, none⟩ = some (.string (t.extract (k + 1) t.size)) := hc3.trans hcs
        gi_wp2
        go_roundw
        case rel => exact ⟨i + 1, _, hlt, hc4, h4, by omega, hJ3⟩
        case measure => simp only [boxLen, hc4, ht]; exact h3
      · have e10 : (10 : Int).toNat.toUInt8 = 10 := by decide
        rw [hxt] at hx
        clear hxt
        have hk0 : ¬ ((0 : Int) ≤ Lib.indexByte t.data.toList 10) := by omega
        have hmx : Tryz.prog.follows .mixedOrders = true := by kernel_rfl
        gi_wp2
        refine ⟨trivial, fun _ => by omega, (callsIn_wide.2 (Tryz.strings_IndexByte t 10 _)).mono ?_⟩
        rintro e w' ⟨rfl, rfl⟩
        rw [e10]
        obtain ⟨fn, tmps, assign, body, hy, hR⟩ := hY i t _ (hab _ _ ⟨#[]⟩ hJ) hx
        have hcs : (w'.setCell ⟨bx, 0, none⟩ (.string ⟨#[]⟩)).cell? ⟨bx, 0, none⟩ = some (.string ⟨#[]⟩) := World.cell?_setCell_same' _ _ _ (by rw [ht]; rfl)
        gi_wp2
        refine ⟨fun _ => by omega, hR.mono ?_⟩
        rintro e W3 ⟨rfl, hJ3, hc3⟩
        have hc4 : W3.cell? ⟨bx, 0, none⟩ = some (.string ⟨#[]⟩) := hc3.trans hcs
        gi_wp2
        go_roundw
        case rel => exact ⟨i + 1, _, hlt, hc4, h4, by omega, hJ3⟩
        case measure => simp only [boxLen, hc4, ht]; exact h3
    · have hl0 : t.size = 0 := by rw [List.drop_eq_nil_of_le (by omega)] at hl; exact hl
      gi_wp2
      go_end0
      have : i = L.length := by omega
      subst this
      exact ⟨⟨_, rfl⟩, hJ⟩
end Go.Proofs.Lx6

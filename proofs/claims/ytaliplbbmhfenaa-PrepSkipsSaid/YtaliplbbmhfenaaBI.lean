/-
  The statements' awake: the chapter's first example.
-/
import Derived.Test.YtaliplbbmhfenaaTC
import Derived.Test.YtaliplbbmhfenaaW
import Derived.Test.YtaliplbbmhfenaaBH
namespace Go.Proofs.Ytaliplbbmhfenaa
open Go.MapKept Go.ChangeShapes Go.WideShapes Go.ChangeAt Go.RowKit Go.Deep Go.Joins Go.Instr
def awS : ByteArray := ⟨#[35, 100, 101, 102, 105, 110, 101, 32, 78, 32, 51, 10, 78]⟩
def awT : List TkD := [⟨4, 0, 1, ⟨#[35]⟩, 0⟩, ⟨1, 1, 1, ⟨#[100, 101, 102, 105, 110, 101]⟩, 0⟩, ⟨1, 8, 1, ⟨#[78]⟩, 0⟩, ⟨2, 10, 1, ⟨#[51]⟩, 3⟩, ⟨1, 12, 2, ⟨#[78]⟩, 0⟩, ⟨0, 13, 2, ⟨#[]⟩, 0⟩]
theorem aw_toks : toksF awS.data.toList 20 0 1 [] = some awT := by kernel_rfl
def awR : List TkD := [⟨2, 12, 2, ⟨#[51]⟩, 3⟩, ⟨0, 13, 2, ⟨#[]⟩, 0⟩]
theorem aw_mac (v : Value) (w : World) (hs : Sl w 5 TkD.enc v awT) : Calls Try.prog 8 #[v] w (MacP awR w) := by
  have h := macros_once ⟨4, 0, 1, ⟨#[35]⟩, 0⟩ ⟨1, 1, 1, ⟨#[100, 101, 102, 105, 110, 101]⟩, 0⟩ ⟨1, 8, 1, ⟨#[78]⟩, 0⟩ ⟨#[78]⟩ [⟨2, 10, 1, ⟨#[51]⟩, 3⟩] [⟨1, 12, 2, ⟨#[78]⟩, 0⟩, ⟨0, 13, 2, ⟨#[]⟩, 0⟩] v w (by decide) hs (by decide +kernel) (by decide +kernel) rfl rfl rfl rfl (by decide +kernel)
    (by decide +kernel) (by decide +kernel) rfl rfl (by decide +kernel) (by decide +kernel) (by decide +kernel) (by decide +kernel) (by decide +kernel) (by decide +kernel) (by decide +kernel)
  have e : exL ⟨#[78]⟩ [⟨2, 10, 1, ⟨#[51]⟩, 3⟩] (([⟨1, 12, 2, ⟨#[78]⟩, 0⟩, ⟨0, 13, 2, ⟨#[]⟩, 0⟩] : List TkD).take (([⟨1, 12, 2, ⟨#[78]⟩, 0⟩, ⟨0, 13, 2, ⟨#[]⟩, 0⟩] : List TkD).length - 1)) ++ [([⟨1, 12, 2, ⟨#[78]⟩, 0⟩, ⟨0, 13, 2, ⟨#[]⟩, 0⟩] : List TkD).getD (([⟨1, 12, 2, ⟨#[78]⟩, 0⟩, ⟨0, 13, 2, ⟨#[]⟩, 0⟩] : List TkD).length - 1) default] = awR := by kernel_rfl
  rw [e] at h
  exact h
set_option maxHeartbeats 4000000 in
theorem awake_any (w : World) : Calls Try.prog 10 #[] w fun e w' => e = .returned (.bool true) ∧ Below w.heap.size w w' := by
  have HAT := Lib.hid aw_toks
  have HAM := Lib.hid aw_mac
  have hR2 : awR.length = 2 := rfl
  have hT0 : awR.getD 0 default = ⟨2, 12, 2, ⟨#[51]⟩, 3⟩ := rfl
  go_enter Try.func10, Try.ntmps10
  go_wp2_with fail
  refine (tokens_some awS _ (by decide) 20 awT HAT).mono ?_
  rintro e w1 ⟨v1, rfl, hown, hB1⟩
  have HS1 := Lib.hid (sl_of_own hown)
  have HB1 := Lib.hid hB1
  obtain ⟨a1, c1, rfl⟩ := own_slice hown
  clear hown hB1
  have hsz1 := HB1.out.size
  go_wp2_with fail
  refine (HAM.out _ _ HS1.out).mono ?_
  rintro e w2 ⟨v2, rfl, hs2, hB2⟩
  have HB2 : Hid (Below w.heap.size w w2) := HB1.out.trans (hB2.mono hsz1)
  obtain ⟨a2, c2, rfl, m2, HA⟩ := sl_open hs2
  obtain ⟨b, off, rfl, hb, hc⟩ := HA.out (by rw [hR2]; omega)
  have c3 : w2.cell? ⟨b, off + 3, none⟩ = some (.string ⟨#[51]⟩) := by
    have := hc 0 (by rw [hR2]; omega) 3 (by omega)
    rw [hT0] at this
    simpa [TkD.enc] using this
  have hcc : (2 : Nat) ≤ c2 := by obtain ⟨_, _, e, h, _⟩ := hs2; injection e with e1 e2 e3; rw [hR2] at h; omega
  rw [hR2]
  clear hs2 hB2 HA hc HAT HAM HS1
  go_wp2_with fail
  go_ret
  exact ⟨rfl, HB2.out⟩
end Go.Proofs.Ytaliplbbmhfenaa

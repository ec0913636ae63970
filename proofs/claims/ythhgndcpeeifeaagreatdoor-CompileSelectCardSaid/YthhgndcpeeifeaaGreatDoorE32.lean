/- Part of the proof of CompileForCardSaid. -/
import Derived.Test.YthhgndcpeeifeaaGreatDoorE31
set_option linter.unusedVariables false
set_option linter.unusedSimpArgs false
set_option linter.unusedSectionVars false
set_option linter.constructorNameAsVariable false
namespace Go.Ev
open Go Go.RowKit Go.Proofs Go.ChangeShapes Go.WideShapes Go.ChangeAt Go.Proofs.Lx6
theorem dec_step {u : Nat} (h : 10 ≤ u) : Lib.decDigits u = Lib.decDigits (u / 10) ++ [UInt8.ofNat (48 + u % 10)] := by
  rw [Lib.decDigits, dif_neg (by omega)]
theorem dec_one {u : Nat} (h : u < 10) : Lib.decDigits u = [UInt8.ofNat (48 + u)] := by
  rw [Lib.decDigits, dif_pos h]
theorem cell_new (w : World) (x : Int) : (w.alloc (.cells #[.int .u8 x] 5)).cell? (Addr.add { block := w.heap.size, off := 0 } 0) = some (.int .u8 x) := by
  rw [show Addr.add { block := w.heap.size, off := 0 } 0 = { block := w.heap.size, off := 0 } from rfl, World.cell?_alloc_new]
  rfl
set_option maxRecDepth 100000 in
theorem conv1 (wr : World) (x : Int) :
    (convert 75 9 (.slice (some { block := wr.heap.size, off := 0 }) 1 1)).run PZ (wr.alloc (.cells #[.int .u8 x] 5)) = .ok (.string ⟨#[UInt8.ofNat x.toNat]⟩) (wr.alloc (.cells #[.int .u8 x] 5)) := by
  rw [run_convert_bytes_string _ 75 9 5 _ _ _ rfl rfl rfl, run_bytesToString _ _ 1 1 [x] (run_loadCells_list (P := PZ) (w := wr.alloc (.cells #[.int .u8 x] 5)) _ [Value.int .u8 x] fun j v h => by
    match j, h with
    | 0, h => cases h; exact cell_new wr x)]
  rfl
theorem decD_len : ∀ (n : Nat), (Lib.decDigits n).length ≤ n + 1 := by
  intro n
  induction n using Nat.strongRecOn with
  | ind n ih =>
    by_cases h : n < 10
    · rw [dec_one h]; simp
    · have := ih (n / 10) (by omega)
      rw [dec_step (by omega), List.length_append]
      simp only [List.length_singleton]
      omega
theorem one_app (x : UInt8) (t : ByteArray) : ({ data := #[x] } ++ t : ByteArray).data.toList = x :: t.data.toList := by simp
set_option maxHeartbeats 2000000 in
set_option maxRecDepth 100000 in
theorem decimal_any (n : Nat) (hn : n < 2147483648) (w : World) :
    Calls PZ 11 #[.int .i64 n] w fun e w' => e = .returned (.string ⟨(Lib.decDigits n).toArray⟩) ∧ Below w.heap.size w w' := by
  have h1 : decide ((n : Int) < 0) = false := decide_eq_false (by omega)
  have h2 : IntKind.u64.wrap (n : Int) = (n : Int) := IntWalk.u64_in _ (by omega)
  go_enter Tryz.func11, Tryz.ntmps11
  go_wp2_with fail
  go_loopw [3, 5] (fun u s wr => ∃ (k : Nat) (t : ByteArray), u = .int .u64 k ∧ s = .string t ∧ k ≤ n ∧ Lib.decDigits k ++ t.data.toList = Lib.decDigits n ∧ Below w.heap.size w wr) (fun u s wr => (RowKit.intOf u).toNat)
  case atStart => exact ⟨n, ⟨#[]⟩, rfl, rfl, Nat.le_refl _, by simp, Below.refl _ _⟩
  case round =>
    obtain ⟨k, t, rfl, rfl, hk, ht, hB⟩ := hrel
    have HB := Lib.hid hB
    have HT := Lib.hid ht
    clear hB ht
    by_cases h10 : 10 ≤ k
    · have c1 : decide ((10 : Int) ≤ (k : Int)) = true := decide_eq_true (by omega)
      have c2 : (10 : Int) ≤ (k : Int) := by omega
      have c3 := conv1 wr (48 + (k : Int) % 10)
      have hl : t.size ≤ n + 1 := by
        have g1 := congrArg List.length HT.out
        have g2 := decD_len n
        simp only [List.length_append, Array.length_toList] at g1
        have : t.data.size = t.size := rfl
        omega
      go_wp2_with fail
      have hkd : (k : Int) / 10 = ((k / 10 : Nat) : Int) := by omega
      refine ⟨⟨k / 10, _, by rw [hkd], rfl, by omega, ?_, HB.out.alloc HB.out.size _⟩, ?_⟩
      · rw [one_app, ← HT.out, dec_step (by omega : 10 ≤ k)]
        simp
      · simp only [RowKit.intOf]
        omega
    · have c1 : decide ((10 : Int) ≤ (k : Int)) = false := decide_eq_false (by omega)
      have c2 : ¬ (10 : Int) ≤ (k : Int) := by omega
      have c3 := conv1 wr (48 + (k : Int))
      have hl : t.size ≤ n + 1 := by
        have g1 := congrArg List.length HT.out
        have g2 := decD_len n
        simp only [List.length_append, Array.length_toList] at g1
        have : t.data.size = t.size := rfl
        omega
      go_wp2_with fail
      refine bodyPost_ret (v := .string ({ data := #[] } ++ { data := #[48 + UInt8.ofNat k] } ++ t)) (by simp [results, Tryz.results11, go_sem]) rfl ⟨?_, HB.out.alloc HB.out.size _⟩
      have g := HT.out
      rw [dec_one (by omega : k < 10)] at g
      rw [← g]
      congr 2
      apply ByteArray.ext
      apply Array.ext'
      simp
end Go.Ev
namespace Go.Ev
open Go Go.RowKit Go.Proofs Go.ChangeShapes Go.WideShapes Go.ChangeAt Go.Proofs.Lx6
def half (x : Int) : Nat := ((x % 4294967296) / 2).toNat
theorem half_lt (x : Int) : half x < 2147483648 := by unfold half; omega
set_option maxHeartbeats 2000000 in
set_option maxRecDepth 100000 in
theorem number_any (x : Int) (w : World) :
    Calls PZ 7 #[.int .i64 x] w fun e w' => e = .returned (.string ⟨(dec (half x)).toArray⟩) ∧ Below w.heap.size w w' := by
  have h1 : IntKind.u32.wrap x = x % 4294967296 := IntKind.wrap_u32 x
  have h2 : (x % 4294967296) / 2 = (half x : Int) := by unfold half; omega
  have h3 := half_lt x
  have h4 : IntKind.i64.wrap (half x : Int) = (half x : Int) := IntWalk.i64_in _ (by omega)
  have h5 : wrap64 (half x : Int) = (half x : Int) := IntWalk.wrap64_in _ (by omega)
  go_enter Tryz.func7, Tryz.ntmps7
  go_wp2_with fail
  refine (decimal_any _ (half_lt x) w).mono ?_
  rintro e w' ⟨rfl, hb⟩
  rw [← decN_dig' 10 (half x) (by omega) (by decide)]
  go_wp2_with fail
  go_ret
  exact ⟨rfl, hb⟩
/-- What a loop may do. -/
def bodiesL : List (List UInt8) := [[120, 43, 43],
  [120, 32, 61, 32, 105],
  [115, 107, 105, 112],
  [120, 32, 61, 32, 120, 32, 43, 32, 105, 59, 32, 120, 45, 45],
  [105, 102, 32, 58, 58, 32, 120, 32, 62, 32, 50, 32, 45, 62, 32, 120, 32, 61, 32, 48, 32, 58, 58, 32, 101, 108, 115, 101, 32, 102, 105],
  [97, 116, 111, 109, 105, 99, 32, 123, 32, 120, 43, 43, 59, 32, 120, 43, 43, 32, 125],
  [123, 32, 120, 32, 61, 32, 49, 32, 125, 32, 117, 110, 108, 101, 115, 115, 32, 105, 32, 62, 32, 50],
  [99, 32, 33, 32, 105],
  [99, 32, 63, 32, 120]]
def bodyL (x : Int) : List UInt8 := bodiesL.getD (x % 9).toNat []
set_option maxHeartbeats 2000000 in
set_option maxRecDepth 100000 in
theorem bodies_any (w : World) : Calls PZ 12 #[] w fun e w' => e = .returned (.slice (some ⟨w.heap.size, 0, none⟩) 9 9) ∧ w' = w.alloc (.cells (bodiesL.map fun l => Value.string ⟨l.toArray⟩).toArray 9) := by
  go_enter Tryz.func12, Tryz.ntmps12
  go_wp2_with fail
  go_ret
  exact ⟨rfl, rfl⟩
set_option maxHeartbeats 2000000 in
set_option maxRecDepth 100000 in
theorem body_any (x : Int) (hx : -9223372036854775808 ≤ x ∧ x ≤ 9223372036854775807) (w : World) :
    Calls PZ 8 #[.int .i64 x] w fun e w' => e = .returned (.string ⟨(bodyL x).toArray⟩) ∧ Below w.heap.size w w' := by
  obtain ⟨k, hk, hb, ht⟩ : ∃ k : Nat, k < 9 ∧ bodyL x = bodiesL.getD k [] ∧ (x.tmod 9 = (k : Int) ∨ x.tmod 9 = (k : Int) - 9) := by
    refine ⟨(x % 9).toNat, by omega, rfl, ?_⟩
    rw [Int.tmod_eq_emod]
    split <;> omega
  rw [hb]
  have hc : (w.alloc (.cells (bodiesL.map fun l => Value.string ⟨l.toArray⟩).toArray 9)).cell? ⟨w.heap.size, k, none⟩ = some (.string ⟨(bodiesL.getD k []).toArray⟩) := by
    rw [World.cell?_alloc_new]
    match k, hk with
    | 0, _ | 1, _ | 2, _ | 3, _ | 4, _ | 5, _ | 6, _ | 7, _ | 8, _ => rfl
  have HB := Lib.hid hb
  clear hb
  have i1 : (k : Int) < 9 := by omega
  have i2 : ¬ (k : Int) < 0 := by omega
  have i3 : (0 : Int) ≤ (k : Int) := by omega
  rcases ht with ht | ht
  · have d1 : decide ((k : Int) < 0) = false := decide_eq_false (by omega)
    have w1 : wrap64 (k : Int) = (k : Int) := IntWalk.wrap64_in _ (by omega)
    go_enter Tryz.func8, Tryz.ntmps8
    go_wp2_with fail
    refine (bodies_any w).mono ?_
    rintro e w' ⟨rfl, rfl⟩
    go_wp2_with fail
    go_ret
    exact ⟨rfl, (Below.refl _ w).alloc (Nat.le_refl _) _⟩
  · have d1 : decide ((k : Int) - 9 < 0) = true := decide_eq_true (by omega)
    have w1 : wrap64 ((k : Int) - 9) = (k : Int) - 9 := IntWalk.wrap64_in _ (by omega)
    have w2 : (k : Int) - 9 + 9 = (k : Int) := by omega
    have w3 : wrap64 (k : Int) = (k : Int) := IntWalk.wrap64_in _ (by omega)
    go_enter Tryz.func8, Tryz.ntmps8
    go_wp2_with fail
    refine (bodies_any w).mono ?_
    rintro e w' ⟨rfl, rfl⟩
    go_wp2_with fail
    go_ret
    exact ⟨rfl, (Below.refl _ w).alloc (Nat.le_refl _) _⟩
end Go.Ev
